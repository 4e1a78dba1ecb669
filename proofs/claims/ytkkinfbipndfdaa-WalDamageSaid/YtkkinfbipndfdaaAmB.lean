/- The relation between an abstract state and a world of the model, and how it is kept. -/
import Derived.Test.YtkkinfbipndfdaaAmA
import Derived.Below
import Derived.Laws.Cells
import Derived.Laws.IdiomCopy
import Derived.Laws.Append
import Derived.Deep.LoopGhost
import Derived.MapKept
import Derived.Lib.FrozenHead
set_option linter.unusedVariables false
set_option linter.unusedSimpArgs false
namespace Go.AM
open Go.RowKit

/-- Who holds a cell: nobody (anything may lie there); nobody writes it any more; a box of a slot; the spare room of a place; an object of the abstract heap; the spare room of such an object's cell. -/
inductive Owner where
  | free | imm
  | box (s : Nat)
  | tail (s i : Nat)
  | h (id : Nat)
  | ht (id i : Nat)
  deriving DecidableEq

inductive Rep (w : World) (I : Nat → Nat → Prop) (η : Nat → Nat) (N : Nat) : AVal → Value → Prop where
  | bool (b : Bool) : Rep w I η N (.bool b) (.bool b)
  | int (k : IntKind) (n : Int) : Rep w I η N (.int k n) (.int k n)
  | str (s : ByteArray) : Rep w I η N (.str s) (.string s)
  | nilIface : Rep w I η N .nilIface .nilIface
  | nilFunc : Rep w I η N .nilFunc .nilFunc
  | nilMap : Rep w I η N .nilMap (.map none)
  | nilPtr : Rep w I η N .nilPtr (.pointer none)
  | func (f : FuncId) (cs : List AVal) (vs : Array Value) (hl : cs.length = vs.size)
      (hr : ∀ (i : Nat) c v, cs[i]? = some c → vs[i]? = some v → Rep w I η N c v) : Rep w I η N (.func f cs) (.func (.func f) #[] vs)
  | agg (cs : List AVal) (vs : Array Value) (hl : cs.length = vs.size)
      (hr : ∀ (i : Nat) c v, cs[i]? = some c → vs[i]? = some v → Rep w I η N c v) (hp : ∀ c ∈ cs, plain c = true) : Rep w I η N (.agg cs) (.agg vs)
  | tuple (cs : List AVal) (vs : Array Value) (hl : cs.length = vs.size)
      (hr : ∀ (i : Nat) c v, cs[i]? = some c → vs[i]? = some v → Rep w I η N c v) : Rep w I η N (.tuple cs) (.tuple vs)
  | slice (sp : Spare) (esz n : Nat) (f : Nat → AVal) (ad : Option Addr) (cap : Nat) (vals : Nat → Nat → Value)
      (hc : n ≤ cap) (hx : sp = .exact → cap = n) (hn : sp = .nil → ad = none ∧ cap = 0)
      (ha : 0 < n → ∃ b o, ad = some ⟨b, o, none⟩ ∧ ∀ i, i < n → ∀ j, j < esz → I b (o + i * esz + j) ∧ w.cell? ⟨b, o + i * esz + j, none⟩ = some (vals i j))
      (hl : ∀ i, i < n → (f i).cells.length = esz)
      (hp : ∀ i, i < n → plainAgg (f i) = true ∧ noRefAgg (f i) = true)
      (hr : ∀ (i : Nat), i < n → ∀ (j : Nat) c, (f i).cells[j]? = some c → Rep w I η N c (vals i j)) : Rep w I η N (.slice sp esz n f) (.slice ad n cap)
  | rptr (c : AVal) (b o : Nat) (vals : Nat → Value) (hp : plainAgg c = true)
      (ha : ∀ j, j < c.cells.length → I b (o + j) ∧ w.cell? ⟨b, o + j, none⟩ = some (vals j))
      (hr : ∀ (j : Nat) x, c.cells[j]? = some x → Rep w I η N x (vals j)) : Rep w I η N (.rptr c) (.pointer (some ⟨b, o, none⟩))
  | map (id : Nat) (h : id < N) : Rep w I η N (.map id) (.map (some (η id)))
  | href (id off : Nat) (h : id < N) : Rep w I η N (.href id off) (.pointer (some ⟨η id, off, none⟩))
  | mslice (id off n esz : Nat) (ag : Bool) (cap : Nat) (h : id < N) (hc : n ≤ cap) (hag : ag = false → esz = 1) : Rep w I η N (.mslice id off n esz ag) (.slice (some ⟨η id, off, none⟩) n cap)
  | iface (t : TypeId) (a : AVal) (v : Value) (hr : Rep w I η N a v) : Rep w I η N (.iface t a) (.iface t v)
  | yld (id : Nat) (h : id < N) : Rep w I η N (.yld id) (.func (.yield (η id)) #[] #[])
  | err (t : TypeId) (v : Value) : Rep w I η N .err (.iface t v)

theorem Rep.mono {w w' : World} {I I' : Nat → Nat → Prop} {η η' : Nat → Nat} {N N' : Nat} (hI : ∀ b o, I b o → I' b o ∧ w'.cell? ⟨b, o, none⟩ = w.cell? ⟨b, o, none⟩)
    (hN : N ≤ N') (hη : ∀ id, id < N → η' id = η id) {a : AVal} {v : Value} (h : Rep w I η N a v) : Rep w' I' η' N' a v := by
  induction h with
  | bool b => exact .bool b
  | int k n => exact .int k n
  | str s => exact .str s
  | nilIface => exact .nilIface
  | nilFunc => exact .nilFunc
  | nilMap => exact .nilMap
  | nilPtr => exact .nilPtr
  | func f cs vs hl hr ih => exact .func f cs vs hl ih
  | agg cs vs hl hr hp ih => exact .agg cs vs hl ih hp
  | tuple cs vs hl hr ih => exact .tuple cs vs hl ih
  | slice sp esz n f ad cap vals hc hx hn ha hl hp hr ih =>
    exact .slice sp esz n f ad cap vals hc hx hn (fun h0 => by
      obtain ⟨b, o, e, h⟩ := ha h0
      exact ⟨b, o, e, fun i hi j hj => ⟨(hI _ _ (h i hi j hj).1).1, (hI _ _ (h i hi j hj).1).2.trans (h i hi j hj).2⟩⟩) hl hp ih
  | rptr c b o vals hp ha hr ih =>
    exact .rptr c b o vals hp (fun j hj => ⟨(hI _ _ (ha j hj).1).1, (hI _ _ (ha j hj).1).2.trans (ha j hj).2⟩) ih
  | map id h => rw [← hη id h]; exact .map id (Nat.lt_of_lt_of_le h hN)
  | href id off h => rw [← hη id h]; exact .href id off (Nat.lt_of_lt_of_le h hN)
  | mslice id off n esz ag cap h hc hag => rw [← hη id h]; exact .mslice id off n esz ag cap (Nat.lt_of_lt_of_le h hN) hc hag
  | iface t a v hr ih => exact .iface t a v ih
  | yld id h => rw [← hη id h]; exact .yld id (Nat.lt_of_lt_of_le h hN)
  | err t v => exact .err t v

/-- The relation's ghosts. -/
structure Gh where
  ω : Nat → Nat → Owner
  η : Nat → Nat
  β : Nat → Nat

def Gh.I (g : Gh) : Nat → Nat → Prop := fun b o => g.ω b o = .imm

def OwnTail (ω : Nat → Nat → Owner) (s i : Nat) (a : AVal) (v : Value) : Prop :=
  ∀ esz n f, a = .slice .own esz n f → ∃ ad cap, v = .slice ad n cap ∧ ∀ j, n * esz ≤ j → j < cap * esz → ∃ b o, ad = some ⟨b, o, none⟩ ∧ ω b (o + j) = .tail s i
/-- The same of a cell of the abstract heap. -/
def OwnHeap (ω : Nat → Nat → Owner) (id i : Nat) (a : AVal) (v : Value) : Prop :=
  ∀ esz n f, a = .slice .own esz n f → ∃ ad cap, v = .slice ad n cap ∧ ∀ j, n * esz ≤ j → j < cap * esz → ∃ b o, ad = some ⟨b, o, none⟩ ∧ ω b (o + j) = .ht id i
theorem OwnHeap.not {ω : Nat → Nat → Owner} {id i : Nat} {a : AVal} {v : Value} (h : ∀ e n f, a ≠ .slice .own e n f) : OwnHeap ω id i a v := fun e n f he => absurd he (h e n f)
def stateOf : LSt → LoopState
  | .ready => .ready
  | .busy => .busy
  | .done _ => .done
def pendOf : LSt → Option Code
  | .done .ret => some .ret
  | .done (.exit i) => some (.exit i)
  | _ => none

def RepPl (w : World) (g : Gh) (N s i : Nat) (a : AVal) (v : Value) : Prop := Rep w g.I g.η N a v ∧ OwnTail g.ω s i a v

def isOwn0 : AVal → Bool
  | .slice .own _ _ _ => true
  | _ => false
def RepSlot (w : World) (g : Gh) (N s : Nat) : AVal → Value → Prop
  | .undef, _ => True
  | .lbox cs, v => v = .pointer (some ⟨g.β s, 0, none⟩) ∧ (∀ o, o < cs.length → g.ω (g.β s) o = .box s) ∧
      ∀ (o : Nat) c, cs[o]? = some c → plain c = true ∧ ∃ x, w.cell? ⟨g.β s, o, none⟩ = some x ∧ RepPl w g N s o c x
  | .lptr s' off, v => v = .pointer (some ⟨g.β s', off, none⟩)
  | .vref s' n, v => ∃ ad cap, v = .slice ad n cap ∧ (0 < n → ad = some ⟨g.β s', 0, none⟩)
  | .vec e n cs, v => 0 < e ∧ cs.length = n * e ∧ ((v = .slice none 0 0 ∧ n = 0) ∨ ∃ cap, v = .slice (some ⟨g.β s, 0, none⟩) n cap ∧ n ≤ cap ∧ (∀ o, o < cap * e → g.ω (g.β s) o = .box s ∧ (w.cell? ⟨g.β s, o, none⟩).isSome = true) ∧
      ∀ (o : Nat) c, cs[o]? = some c → plain c = true ∧ isOwn0 c = false ∧ ∃ x, w.cell? ⟨g.β s, o, none⟩ = some x ∧ Rep w g.I g.η N c x)
  | a, v => RepPl w g N s 0 a v

def RepObj (w : World) (I : Nat → Nat → Prop) (ω : Nat → Nat → Owner) (η : Nat → Nat) (N id : Nat) : HObj → Prop
  | .arr cs => (∀ o, o < cs.length → ω (η id) o = .h id) ∧ ∀ (o : Nat) c, cs[o]? = some c → plain c = true ∧ ∃ x, w.cell? ⟨η id, o, none⟩ = some x ∧ Rep w I η N c x ∧ OwnHeap ω id o c x
  | .map es => ω (η id) 0 = .h id ∧ ∃ ents clock, w.heap[η id]? = some (.map ents clock) ∧ (ents.size = es.length ∧ Go.MapKept.Stamped ents clock) ∧
      ∀ (i : Nat) k x e, es[i]? = some (k, x) → ents[i]? = some e → Rep w I η N k e.key ∧ Rep w I η N x e.val ∧ plainAgg x = true ∧ plain k = true

  | .iter m es todo cur => ω (η id) 0 = .h id ∧ ω (η m) 0 = .h m ∧ m < N ∧ ∃ (ents : Array MapEntry) (clock since c0 : Nat) (seen : Array Nat) (rs : List MapEntry), w.heap[η m]? = some (.map ents clock) ∧ w.heap[η id]? = some (.mapIter (some (η m)) since seen c0) ∧
      (ents.size = es.length ∧ Go.MapKept.Stamped ents clock) ∧ (∀ x ∈ ents.toList, x.born < since) ∧ (since ≤ c0 ∧ since ≤ clock) ∧
      (∀ (i : Nat) k x e, es[i]? = some (k, x) → ents[i]? = some e → Rep w I η N k e.key ∧ Rep w I η N x e.val ∧ plainAgg x = true ∧ plain k = true) ∧
      rs.length = todo.length ∧ (∀ x, x ∈ rs ↔ x ∈ ents.toList ∧ seen.contains x.born = false) ∧ (rs.map (·.born)).Nodup ∧
      (∀ (i : Nat) k x e, todo[i]? = some (k, x) → rs[i]? = some e → Rep w I η N k e.key ∧ Rep w I η N x e.val ∧ plainAgg x = true ∧ plain k = true) ∧
      (∀ k x, cur = some (k, x) → ∃ (e : MapEntry) (seen' : Array Nat), e ∈ ents.toList ∧ seen = seen'.push e.born ∧ c0 = clock ∧ Rep w I η N k e.key ∧ Rep w I η N x e.val ∧ plainAgg x = true ∧ plain k = true)
  | .locked _ => ω (η id) 0 = .h id
  | .bld T e s => (∀ o, ω (η id) o = .h id) ∧ Go.Lib.IsBuilderF T e 0 (η id) (Go.Lib.byteCells s.data.toList) w ∧ ∀ q n cap, w.cell? ⟨η id, 1, none⟩ = some (.slice (some ⟨q, 0, none⟩) n cap) → ∀ o, ω q o = .h id
  | .dfr => ω (η id) 0 = .h id ∧ w.heap[η id]? = some (.deferred (some []))
  | .loop L ts s => ω (η id) 0 = .h id ∧ ∃ (fn : FuncId) (vs : Array Value) (D : Nat), w.heap[η id]? = some (.loop { state := stateOf s, pending := pendOf s, fn := fn, tmps := vs, params := L.params.toArray, assign := L.assign, body := L.body, defers := D }) ∧
      ts.length = vs.size ∧ ∀ (i : Nat) a v, ts[i]? = some a → vs[i]? = some v → a = .undef ∨ Rep w I η N a v

theorem builderAt_same {T e : TypeId} {b : Nat} {p : Value} {bs : List Value} {w w' : World} (h : Go.Lib.BuilderAtF T e 0 b p bs w) (h1 : w'.heap[b]? = w.heap[b]?)
    (h2 : ∀ q n cap, w.cell? ⟨b, 1, none⟩ = some (.slice (some ⟨q, 0, none⟩) n cap) → w'.heap[q]? = w.heap[q]?) : Go.Lib.BuilderAtF T e 0 b p bs w' := by
  obtain ⟨hB, v, hb, hown, hne⟩ := h
  refine ⟨hB, v, h1.trans hb, ⟨hown.1, hown.2.imp (fun x => x) ?_⟩, hne⟩
  rintro ⟨q, cap, cur, fz, rfl, hq, hg, r⟩
  refine ⟨q, cap, cur, fz, rfl, hq, (h2 q bs.length cap ?_).trans hg, r⟩
  simp [World.cell?, hb]
theorem builder_same {T e : TypeId} {b : Nat} {bs : List Value} {w w' : World} (h : Go.Lib.IsBuilderF T e 0 b bs w) (h1 : w'.heap[b]? = w.heap[b]?)
    (h2 : ∀ q n cap, w.cell? ⟨b, 1, none⟩ = some (.slice (some ⟨q, 0, none⟩) n cap) → w'.heap[q]? = w.heap[q]?) : Go.Lib.IsBuilderF T e 0 b bs w' :=
  h.imp (fun x => builderAt_same x h1 h2) (fun x => builderAt_same x h1 h2)
/-- A map over which a walk goes is held by it. -/
def Locks (H : List HObj) : Prop := ∀ (id m : Nat) es todo cur, H[id]? = some (.iter m es todo cur) → m < id ∧ H[m]? = some (.locked id)

theorem RepObj.sub {w : World} {I I' : Nat → Nat → Prop} {ω ω' : Nat → Nat → Owner} {η : Nat → Nat} {N id : Nat} {o : HObj} (h : RepObj w I ω η N id o) (hI : ∀ b o, I b o → I' b o) (hω : ∀ b o id, ω b o = .h id → ω' b o = .h id) (hωt : ∀ b o id i, ω b o = .ht id i → ω' b o = .ht id i) : RepObj w I' ω' η N id o := by
  have hm : ∀ {a : AVal} {v : Value}, Rep w I η N a v → Rep w I' η N a v := fun h => h.mono (fun b o hb => ⟨hI b o hb, rfl⟩) (Nat.le_refl _) (fun _ _ => rfl)
  cases o with
  | arr cs =>
    refine ⟨fun o ho => hω _ _ _ (h.1 o ho), fun o c hc => ?_⟩
    obtain ⟨h1, x, h2, h3, h4⟩ := h.2 o c hc
    refine ⟨h1, x, h2, hm h3, fun e n f he => ?_⟩
    obtain ⟨ad, cap, h5, h6⟩ := h4 e n f he
    exact ⟨ad, cap, h5, fun j h7 h8 => by obtain ⟨b, o', h9, h10⟩ := h6 j h7 h8; exact ⟨b, o', h9, hωt _ _ _ _ h10⟩⟩
  | dfr => exact ⟨hω _ _ _ h.1, h.2⟩
  | bld T e s => exact ⟨fun o => hω _ _ _ (h.1 o), h.2.1, fun q n cap hc o => hω _ _ _ (h.2.2 q n cap hc o)⟩
  | loop L ts s =>
    obtain ⟨h1, fn, vs, D, h2, h3, h4⟩ := h
    exact ⟨hω _ _ _ h1, fn, vs, D, h2, h3, fun i a v ha hv => (h4 i a v ha hv).imp (fun e => e) hm⟩
  | map es =>
    obtain ⟨h1, ents, clock, h2, h3, h4⟩ := h
    refine ⟨hω _ _ _ h1, ents, clock, h2, h3, fun i k x e he hi => ?_⟩
    obtain ⟨a, b, c, d⟩ := h4 i k x e he hi
    exact ⟨hm a, hm b, c, d⟩
  | locked i => exact hω _ _ _ h
  | iter m es todo cur =>
    obtain ⟨h1, h2, h3, ents, clock, since, c0, seen, rs, h4, h5, h6, h7, h8, h9, h10, h11, h12, h13, h14⟩ := h
    refine ⟨hω _ _ _ h1, hω _ _ _ h2, h3, ents, clock, since, c0, seen, rs, h4, h5, h6, h7, h8, fun i k x e he hi => ?_, h10, h11, h12, fun i k x e he hi => ?_, fun k x hc => ?_⟩
    · obtain ⟨a, b, c, d⟩ := h9 i k x e he hi
      exact ⟨hm a, hm b, c, d⟩
    · obtain ⟨a, b, c, d⟩ := h13 i k x e he hi
      exact ⟨hm a, hm b, c, d⟩
    · obtain ⟨e, s', h15, h16, h17, a, b, c, d⟩ := h14 k x hc
      exact ⟨e, s', h15, h16, h17, hm a, hm b, c, d⟩

/-- The part of the relation that speaks of the world and the abstract heap. -/
structure Base (w : World) (ω : Nat → Nat → Owner) (η : Nat → Nat) (H : List HObj) : Prop where
  heap : ∀ (id : Nat) o, H[id]? = some o → RepObj w (fun b o => ω b o = .imm) ω η H.length id o
  live : ∀ b o, ω b o ≠ .free → b < w.heap.size
  soft : ∀ b o, ω b o ≠ .free → ω b o ≠ .imm → (∀ id, ω b o = .h id → η id = b) → w.frozen? ⟨b, o, none⟩ = false
  tail : ∀ b o, ((∃ s i, ω b o = .tail s i) ∨ ∃ id i, ω b o = .ht id i) → ∃ v, w.cell? ⟨b, o, none⟩ = some v
  sep : ∀ b o o' id, ω b o = .h id → ω b o' = .h id ∨ ω b o' = .free
  low : ∀ b o id, (ω b o = .h id ∨ ∃ i, ω b o = .ht id i) → id < H.length
  lock : Locks H

/-- What package-level variables hold for good: blocks that nobody ever writes. -/
class Vars where
  V : Nat → Obj → Prop
def VarsOk [VR : Vars] (w : World) (ω : Nat → Nat → Owner) : Prop := ∀ b ob, VR.V b ob → w.heap[b]? = some ob ∧ ∀ o, ω b o = .free ∨ ω b o = .imm

/-- What a call may assume: no box, no spare room of its own yet. -/
structure Pre [VR : Vars] (w : World) (ω : Nat → Nat → Owner) (η : Nat → Nat) (H : List HObj) : Prop extends Base w ω η H where
  none : ∀ b o, ω b o = .free ∨ ω b o = .imm ∨ (∃ id, ω b o = .h id) ∨ ∃ id i, ω b o = .ht id i
  vars : VarsOk w ω

/-- From w to w', as a call may leave it: blocks without cells of the abstract heap are as they were. -/
structure Keeps [VR : Vars] (w : World) (ω : Nat → Nat → Owner) (w' : World) : Prop where
  os : w'.os = w.os
  tape : w'.tape = w.tape
  output : w'.output = w.output
  size : w.heap.size ≤ w'.heap.size
  block : ∀ b, b < w.heap.size → (∀ o id, ω b o ≠ .h id) → (∀ o id i, ω b o ≠ .ht id i) → w'.heap[b]? = w.heap[b]?
  cell : ∀ b o, b < w.heap.size → (∀ id, ω b o ≠ .h id) → (∀ id i, ω b o ≠ .ht id i) → w'.cell? ⟨b, o, none⟩ = w.cell? ⟨b, o, none⟩ ∧ w'.frozen? ⟨b, o, none⟩ = w.frozen? ⟨b, o, none⟩
  vars : VarsOk w ω

theorem Keeps.refl [VR : Vars] (w : World) (ω : Nat → Nat → Owner) (hv : VarsOk w ω) : Keeps w ω w := ⟨rfl, rfl, rfl, Nat.le_refl _, fun _ _ _ _ => rfl, fun _ _ _ _ _ => ⟨rfl, rfl⟩, hv⟩
theorem Keeps.varsOk [VR : Vars] {w0 w : World} {ω0 : Nat → Nat → Owner} (h : Keeps w0 ω0 w) {ω : Nat → Nat → Owner} (hp : ∀ b, b < w0.heap.size → ∀ o, (∀ id i, ω0 b o ≠ .ht id i) → ω b o = ω0 b o ∨ ω b o = .free) : VarsOk w ω := fun b ob hb => by
  obtain ⟨h1, h2⟩ := h.vars b ob hb
  have hlt : b < w0.heap.size := (Array.getElem?_eq_some_iff.1 h1).1
  have hn : ∀ o id i, ω0 b o ≠ .ht id i := fun o id i e => by rcases h2 o with h | h <;> (rw [h] at e; cases e)
  refine ⟨(h.block b hlt (fun o id e => by rcases h2 o with h | h <;> (rw [h] at e; cases e)) hn).trans h1, fun o => ?_⟩
  rcases hp b hlt o (hn o) with e | e
  · rw [e]; exact h2 o
  · exact .inl e

/-- How the memory and the abstract heap were at the call's begin. -/
structure Entry where
  ω : Nat → Nat → Owner
  η : Nat → Nat
  n : Nat

structure Rel [VR : Vars] (w0 : World) (ω0 : Entry) (w : World) (g : Gh) (st : St) (vs : Array Value) : Prop where
  base : Base w g.ω g.η st.H
  len : st.ts.length = vs.size
  slot : ∀ (s : Nat) a v, st.ts[s]? = some a → vs[s]? = some v → RepSlot w g st.H.length s a v
  mine : ∀ b o, ((∃ s, g.ω b o = .box s) ∨ ∃ s i, g.ω b o = .tail s i) → w0.heap.size ≤ b ∨ ∃ id i, ω0.ω b o = .ht id i
  past : ∀ b, b < w0.heap.size → ∀ o, ((∀ id i, ω0.ω b o ≠ .ht id i) → g.ω b o = ω0.ω b o) ∧ ∀ id, g.ω b o = .h id → ω0.ω b o = .h id
  keeps : Keeps w0 ω0.ω w
  old : ω0.n ≤ st.H.length ∧ ∀ id, id < ω0.n → g.η id = ω0.η id

theorem cell_of_heap {w w' : World} {b : Nat} (h : w'.heap[b]? = w.heap[b]?) (o : Nat) : w'.cell? ⟨b, o, none⟩ = w.cell? ⟨b, o, none⟩ ∧ w'.frozen? ⟨b, o, none⟩ = w.frozen? ⟨b, o, none⟩ := by
  simp [World.cell?, World.frozen?, h]

theorem RepSlot.pl {w : World} {g : Gh} {N s : Nat} {a : AVal} {v : Value} (h : RepSlot w g N s a v) (h1 : a ≠ .undef) (h2 : ∀ cs, a ≠ .lbox cs) (h3 : ∀ s' o, a ≠ .lptr s' o) (h4 : ∀ e n cs, a ≠ .vec e n cs := by simp) (h5 : ∀ s' n, a ≠ .vref s' n := by simp) : RepPl w g N s 0 a v := by
  cases a <;> first | exact h | exact absurd rfl h1 | exact absurd rfl (h2 _) | exact absurd rfl (h3 _ _) | exact absurd rfl (h4 _ _ _) | exact absurd rfl (h5 _ _)

theorem RepSlot.of_pl {w : World} {g : Gh} {N s : Nat} {a : AVal} {v : Value} (h : RepPl w g N s 0 a v) : RepSlot w g N s a v := by
  cases a <;> first | exact h | trivial | (obtain ⟨h, _⟩ := h; cases h)

/-- What is the same in two worlds, but for the cells of owners in X. -/
structure Same (X : Owner → Prop) (w : World) (g : Gh) (N : Nat) (w' : World) (g' : Gh) : Prop where
  cell : ∀ b o, g.ω b o ≠ .free → ¬ X (g.ω b o) → g'.ω b o = g.ω b o ∧ w'.cell? ⟨b, o, none⟩ = w.cell? ⟨b, o, none⟩
  obj : ∀ b, b < w.heap.size → (∃ o id, g.ω b o = .h id ∧ ¬ X (.h id)) → w'.heap[b]? = w.heap[b]?
  η : ∀ id, id < N → g'.η id = g.η id

theorem Same.rep {X : Owner → Prop} {w w' : World} {g g' : Gh} {N N' : Nat} (h : Same X w g N w' g') (hX : ¬ X .imm) (hN : N ≤ N') {a : AVal} {v : Value} (hr : Rep w g.I g.η N a v) : Rep w' g'.I g'.η N' a v :=
  hr.mono (fun b o hb => by
    have hb' : g.ω b o = .imm := hb
    have := h.cell b o (by rw [hb']; simp) (by rw [hb']; exact hX)
    exact ⟨this.1.trans hb', this.2⟩) hN h.η

theorem Same.pl {X : Owner → Prop} {w w' : World} {g g' : Gh} {N N' : Nat} (h : Same X w g N w' g') (hX : ¬ X .imm) (hN : N ≤ N') {s i : Nat} {a : AVal} {v : Value} (ht : ¬ X (.tail s i) ∨ ∀ e n f, a ≠ .slice .own e n f)
    (hr : RepPl w g N s i a v) : RepPl w' g' N' s i a v := by
  refine ⟨h.rep hX hN hr.1, fun esz n f e => ?_⟩
  obtain ⟨ad, cap, hv, hj⟩ := hr.2 esz n f e
  refine ⟨ad, cap, hv, fun j h1 h2 => ?_⟩
  obtain ⟨b, o, e1, e2⟩ := hj j h1 h2
  rcases ht with ht | ht
  · exact ⟨b, o, e1, (h.cell b _ (by rw [e2]; simp) (by rw [e2]; exact ht)).1.trans e2⟩
  · exact absurd e (ht _ _ _)

/-- A slot that holds cells of its own; whose cells are pointed to. -/
def isBx : AVal → Bool
  | .lbox _ | .vec _ _ _ => true
  | _ => false
def ptrTo : AVal → Option Nat
  | .lptr s _ => some s
  | .vref s _ => some s
  | _ => none
/-- A slot whose owners are outside of X is kept. -/
theorem Same.slot {X : Owner → Prop} {w w' : World} {g g' : Gh} {N N' : Nat} (h : Same X w g N w' g') (hX : ¬ X .imm) (hN : N ≤ N') {s : Nat} {a : AVal} {v : Value}
    (hb : ¬ X (.box s)) (ht : ∀ i, ¬ X (.tail s i)) (hβ : isBx a = true → g'.β s = g.β s) (hβ' : ∀ s', ptrTo a = some s' → g'.β s' = g.β s')
    (hr : RepSlot w g N s a v) : RepSlot w' g' N' s a v := by
  cases a with
  | undef => trivial
  | lptr s' off => simp only [RepSlot] at hr ⊢; rw [hβ' s' rfl]; exact hr
  | vref s' n => simp only [RepSlot] at hr ⊢; rw [hβ' s' rfl]; exact hr
  | vec e n cs =>
    simp only [RepSlot] at hr ⊢
    rw [hβ rfl]
    obtain ⟨h1, h2, h3⟩ := hr
    refine ⟨h1, h2, h3.imp (fun e => e) ?_⟩
    rintro ⟨cap, e1, e2, e3, e4⟩
    have hk : ∀ o, o < cap * e → g'.ω (g.β s) o = .box s ∧ w'.cell? ⟨g.β s, o, none⟩ = w.cell? ⟨g.β s, o, none⟩ := fun o ho => by
      have e := (e3 o ho).1
      have := h.cell _ _ (by rw [e]; simp) (by rw [e]; exact hb)
      exact ⟨this.1.trans e, this.2⟩
    refine ⟨cap, e1, e2, fun o ho => ⟨(hk o ho).1, by rw [(hk o ho).2]; exact (e3 o ho).2⟩, fun o c hc => ?_⟩
    obtain ⟨c1, c2, x, c3, c4⟩ := e4 o c hc
    have ho : o < cap * e := by
      have h5 : o < cs.length := (List.getElem?_eq_some_iff.1 hc).1
      have := Nat.mul_le_mul_right e e2
      omega
    exact ⟨c1, c2, x, by rw [(hk o ho).2]; exact c3, h.rep hX hN c4⟩
  | lbox cs =>
    simp only [RepSlot] at hr ⊢
    rw [hβ rfl]
    obtain ⟨h1, h2, h3⟩ := hr
    refine ⟨h1, fun o ho => ?_, fun o c hc => ?_⟩
    · have e := h2 o ho
      exact (h.cell _ _ (by rw [e]; simp) (by rw [e]; exact hb)).1.trans e
    · obtain ⟨hp, x, hx, hpl⟩ := h3 o c hc
      have ho : o < cs.length := by
        rcases Nat.lt_or_ge o cs.length with h | h
        · exact h
        · rw [List.getElem?_eq_none h] at hc; cases hc
      have e := h2 o ho
      exact ⟨hp, x, (h.cell _ _ (by rw [e]; simp) (by rw [e]; exact hb)).2.trans hx, h.pl hX hN (.inl (ht o)) hpl⟩
  | _ => exact h.pl hX hN (.inl (ht 0)) hr

theorem Same.objs {X : Owner → Prop} {w w' : World} {g g' : Gh} {H : List HObj} {N' : Nat} (h : Same X w g H.length w' g') (hX : ¬ X .imm) (hN : H.length ≤ N') (B : Base w g.ω g.η H)
    {id : Nat} {o : HObj} (ho : H[id]? = some o) (hh : ¬ X (.h id)) (hht : ∀ i, ¬ X (.ht id i)) (hl : ∀ m es t c, o = .iter m es t c → ¬ X (.h m)) : RepObj w' g'.I g'.ω g'.η N' id o := by
  have hid : id < H.length := by
    rcases Nat.lt_or_ge id H.length with h | h
    · exact h
    · rw [List.getElem?_eq_none h] at ho; cases ho
  have hr := B.heap id o ho
  cases o with
  | arr cs =>
    simp only [RepObj] at hr ⊢
    rw [h.η id hid]
    refine ⟨fun o ho => ?_, fun o c hc => ?_⟩
    · have e := hr.1 o ho
      exact (h.cell _ _ (by rw [e]; simp) (by rw [e]; exact hh)).1.trans e
    · obtain ⟨hp, x, hx, hpl⟩ := hr.2 o c hc
      have ho : o < cs.length := by
        rcases Nat.lt_or_ge o cs.length with h | h
        · exact h
        · rw [List.getElem?_eq_none h] at hc; cases hc
      have e := hr.1 o ho
      refine ⟨hp, x, (h.cell _ _ (by rw [e]; simp) (by rw [e]; exact hh)).2.trans hx, h.rep hX hN hpl.1, fun esz n f he => ?_⟩
      obtain ⟨ad, cap, h5, h6⟩ := hpl.2 esz n f he
      refine ⟨ad, cap, h5, fun j h7 h8 => ?_⟩
      obtain ⟨b, o', h9, h10⟩ := h6 j h7 h8
      exact ⟨b, o', h9, (h.cell _ _ (by rw [h10]; simp) (by rw [h10]; exact hht o)).1.trans h10⟩
  | bld T e s =>
    simp only [RepObj] at hr ⊢
    rw [h.η id hid]
    obtain ⟨h1, h2, h3⟩ := hr
    have hb := h.obj _ (B.live _ 0 (by rw [h1]; simp)) ⟨0, id, h1 0, hh⟩
    refine ⟨fun o => (h.cell _ _ (by rw [h1]; simp) (by rw [h1]; exact hh)).1.trans (h1 o), builder_same h2 hb (fun q n cap hc => ?_), fun q n cap hc o => ?_⟩
    · have e := h3 q n cap hc 0
      exact h.obj _ (B.live _ 0 (by rw [e]; simp)) ⟨0, id, e, hh⟩
    · rw [(cell_of_heap hb 1).1] at hc
      have e := h3 q n cap hc o
      exact (h.cell _ _ (by rw [e]; simp) (by rw [e]; exact hh)).1.trans e
  | dfr =>
    simp only [RepObj] at hr ⊢
    rw [h.η id hid]
    exact ⟨(h.cell _ _ (by rw [hr.1]; simp) (by rw [hr.1]; exact hh)).1.trans hr.1, (h.obj _ (B.live _ 0 (by rw [hr.1]; simp)) ⟨0, id, hr.1, hh⟩).trans hr.2⟩
  | loop L ts s =>
    simp only [RepObj] at hr ⊢
    rw [h.η id hid]
    obtain ⟨h1, fn, vs, D, h2, h3, h4⟩ := hr
    exact ⟨(h.cell _ _ (by rw [h1]; simp) (by rw [h1]; exact hh)).1.trans h1, fn, vs, D, (h.obj _ (B.live _ 0 (by rw [h1]; simp)) ⟨0, id, h1, hh⟩).trans h2, h3, fun i a v ha hv => (h4 i a v ha hv).imp (fun e => e) (h.rep hX hN)⟩
  | map es =>
    simp only [RepObj] at hr ⊢
    rw [h.η id hid]
    obtain ⟨h1, ents, clock, h2, h3, h4⟩ := hr
    refine ⟨(h.cell _ _ (by rw [h1]; simp) (by rw [h1]; exact hh)).1.trans h1, ents, clock, (h.obj _ (B.live _ 0 (by rw [h1]; simp)) ⟨0, id, h1, hh⟩).trans h2, h3, fun i k x e he hi => ?_⟩
    obtain ⟨a, b, c, d⟩ := h4 i k x e he hi
    exact ⟨h.rep hX hN a, h.rep hX hN b, c, d⟩
  | locked i =>
    simp only [RepObj] at hr ⊢
    rw [h.η id hid]
    exact (h.cell _ _ (by rw [hr]; simp) (by rw [hr]; exact hh)).1.trans hr
  | iter m es todo cur =>
    simp only [RepObj] at hr ⊢
    obtain ⟨h1, h2, h3, ents, clock, since, c0, seen, rs, h4, h5, h6, h7, h8, h9, h10, h11, h12, h13, h14⟩ := hr
    rw [h.η id hid, h.η m h3]
    have hm := hl m es todo cur rfl
    refine ⟨(h.cell _ _ (by rw [h1]; simp) (by rw [h1]; exact hh)).1.trans h1, (h.cell _ _ (by rw [h2]; simp) (by rw [h2]; exact hm)).1.trans h2, by omega, ents, clock, since, c0, seen, rs,
      (h.obj _ (B.live _ 0 (by rw [h2]; simp)) ⟨0, m, h2, hm⟩).trans h4, (h.obj _ (B.live _ 0 (by rw [h1]; simp)) ⟨0, id, h1, hh⟩).trans h5, h6, h7, h8, fun i k x e he hi => ?_, h10, h11, h12, fun i k x e he hi => ?_, fun k x hc => ?_⟩
    · obtain ⟨a, b, c, d⟩ := h9 i k x e he hi
      exact ⟨h.rep hX hN a, h.rep hX hN b, c, d⟩
    · obtain ⟨a, b, c, d⟩ := h13 i k x e he hi
      exact ⟨h.rep hX hN a, h.rep hX hN b, c, d⟩
    · obtain ⟨e, s', h15, h16, h17, a, b, c, d⟩ := h14 k x hc
      exact ⟨e, s', h15, h16, h17, h.rep hX hN a, h.rep hX hN b, c, d⟩

theorem Locks.nil : Locks [] := fun id m es t c h => by simp at h
theorem Locks.append {H : List HObj} (h : Locks H) {q : HObj} (hq : ∀ m es t c, q = .iter m es t c → m < H.length ∧ H[m]? = some (.locked H.length)) : Locks (H ++ [q]) := fun id m es t c hi => by
  rcases Nat.lt_or_ge id H.length with hid | hid
  · rw [List.getElem?_append_left hid] at hi
    obtain ⟨h1, h2⟩ := h id m es t c hi
    exact ⟨h1, by rw [List.getElem?_append_left (by omega)]; exact h2⟩
  · rw [List.getElem?_append_right hid] at hi
    have e : id = H.length := by
      rcases Nat.lt_or_ge 0 (id - H.length) with h0 | h0
      · rw [List.getElem?_eq_none (by simp; omega)] at hi; cases hi
      · omega
    subst e
    simp only [Nat.sub_self, List.getElem?_cons_zero, Option.some.injEq] at hi
    obtain ⟨h1, h2⟩ := hq m es t c hi
    exact ⟨h1, by rw [List.getElem?_append_left h1]; exact h2⟩
theorem Locks.take {H : List HObj} (h : Locks H) (n : Nat) : Locks (H.take n) := fun id m es t c hi => by
  have hid : id < n := by
    rcases Nat.lt_or_ge id n with h0 | h0
    · exact h0
    · rw [List.getElem?_eq_none (by rw [List.length_take]; omega)] at hi; cases hi
  rw [List.getElem?_take_of_lt hid] at hi
  obtain ⟨h1, h2⟩ := h id m es t c hi
  exact ⟨h1, by rw [List.getElem?_take_of_lt (by omega)]; exact h2⟩
/-- The objects of X have turned: none of them was held, none of them is a walk. -/
theorem Locks.turn {H H' : List HObj} (h : Locks H) (X : Nat → Prop) (h1 : ∀ id, ¬ X id → H'[id]? = H[id]?) (h2 : ∀ id, X id → (∀ i, H[id]? ≠ some (.locked i)) ∧ ∀ m es t c, H'[id]? ≠ some (.iter m es t c)) : Locks H' := fun id m es t c hi => by
  by_cases hx : X id
  · exact absurd hi ((h2 id hx).2 m es t c)
  · rw [h1 id hx] at hi
    obtain ⟨h3, h4⟩ := h id m es t c hi
    refine ⟨h3, ?_⟩
    rw [h1 m (fun hm => (h2 m hm).1 id h4)]; exact h4
theorem Locks.set {H : List HObj} (h : Locks H) {id : Nat} {q : HObj} (h1 : ∀ i, H[id]? ≠ some (.locked i)) (h2 : ∀ m es t c, q ≠ .iter m es t c) : Locks (H.set id q) :=
  h.turn (· = id) (fun j hj => by rw [List.getElem?_set_ne (fun e => hj e.symm)]) (fun j hj => by
    subst hj
    refine ⟨h1, fun m es t c hi => ?_⟩
    rw [List.getElem?_set] at hi
    simp only [if_true] at hi
    split at hi
    · exact h2 m es t c (Option.some.inj hi)
    · cases hi)

end Go.AM
