/- Typed values and their encodings: what the printed typed functions and their proofs lean on. -/
import Derived.Test.YtkkinfbipndfdaaAmR
set_option linter.unusedVariables false
set_option linter.unusedSimpArgs false
namespace Go.AM

def bE : ByteArray := ⟨#[]⟩
def bt (s : ByteArray) (i : Nat) : Int := ((s.data.toList.getD i 0).toNat : Int)
def sEq (a b : ByteArray) : Bool := a.toList == b.toList
def sNe (a b : ByteArray) : Bool := !(a.toList == b.toList)
def sLt (a b : ByteArray) : Bool := Op.bytesLess a.toList b.toList
def sLe (a b : ByteArray) : Bool := Op.bytesLess a.toList b.toList || a.toList == b.toList
def sGt (a b : ByteArray) : Bool := !(Op.bytesLess a.toList b.toList || a.toList == b.toList)
def sGe (a b : ByteArray) : Bool := !Op.bytesLess a.toList b.toList
def iAnd (k : IntKind) (a b : Int) : Int := k.wrap (BitVec.ofInt k.bits a &&& BitVec.ofInt k.bits b).toNat
def iOr (k : IntKind) (a b : Int) : Int := k.wrap (BitVec.ofInt k.bits a ||| BitVec.ofInt k.bits b).toNat
def iXor (k : IntKind) (a b : Int) : Int := k.wrap (BitVec.ofInt k.bits a ^^^ BitVec.ofInt k.bits b).toNat
def iAndNot (k : IntKind) (a b : Int) : Int := k.wrap (BitVec.ofInt k.bits a &&& ~~~BitVec.ofInt k.bits b).toNat
def iShl (k : IntKind) (a b : Int) : Int := k.wrap (a * 2 ^ (min b.toNat k.bits))
def iShr (k : IntKind) (a b : Int) : Int := a.fdiv (2 ^ (min b.toNat k.bits))
def iNot (k : IntKind) (n : Int) : Int := k.wrap (BitVec.ofInt k.bits (bif k.signed then -1 else k.max) ^^^ BitVec.ofInt k.bits n).toNat

section
variable {R α : Type} {C : FuncId → List AVal → List HObj → AVal → List HObj → Prop} {enc : α → R} {t : Tree R} {c c' : Bool} {X Y : Option α}
theorem Dn.chkE (he : c = c') (h : t.head = .cnd c) (h1 : c' = true → Dn C enc t.tt X) : Dn C enc t (bif c' then X else Option.none) := by subst he; exact Dn.chk h h1
theorem Dn.castX (h : X = Y) (d : Dn C enc t Y) : Dn C enc t X := h ▸ d
theorem Dn.retE {a : α} {b : R} (h : t.head = .ret b) (hb : b = enc a) : Dn C enc t (some a) := by subst hb; exact Dn.ret h
end

theorem nil_of {α : Type} {l : List α} (h : decide (0 < l.length) = false) : l = [] := by
  cases l with
  | nil => rfl
  | cons a l => simp at h

/-! ### Keys -/
structure KeyOk {α : Type} [BEq α] (enc : α → AVal) : Prop where
  eqs : ∀ a b, eqScalar (enc a) (enc b) = some (a == b)
theorem keyStr : KeyOk AVal.str := ⟨fun _ _ => rfl⟩
theorem keyInt (k : IntKind) : KeyOk (AVal.int k) := ⟨fun a b => by simp [eqScalar]⟩
theorem keyBool : KeyOk AVal.bool := ⟨fun _ _ => rfl⟩

section
variable {α β : Type} [BEq α]
def lk (k : α) : List (α × β) → Option β
  | [] => none
  | (a, b) :: l => bif k == a then some b else lk k l
def putL (k : α) (v : β) : List (α × β) → List (α × β)
  | [] => [(k, v)]
  | (a, b) :: l => bif k == a then (k, v) :: l else (a, b) :: putL k v l
def delL (k : α) : List (α × β) → List (α × β)
  | [] => []
  | (a, b) :: l => bif k == a then l else (a, b) :: delL k l
def entL (encK : α → AVal) (encV : β → AVal) (L : List (α × β)) : List (AVal × AVal) := L.map fun p => (encK p.1, encV p.2)

variable {encK : α → AVal} {encV : β → AVal} {es : List (AVal × AVal)} {L : List (α × β)}
theorem findKey_eq (hk : KeyOk encK) (k : α) : ∀ L : List (α × β), findKey (encK k) (entL encK encV L) = (lk k L).map encV
  | [] => rfl
  | (a, b) :: l => by
    have ih := findKey_eq hk k l
    unfold entL at ih
    show findKey (encK k) ((encK a, encV b) :: l.map _) = _
    simp only [findKey, hk.eqs, lk, ih]
    cases k == a <;> rfl
theorem putKey_eq (hk : KeyOk encK) (k : α) (v : β) : ∀ L : List (α × β), putKey (encK k) (encV v) (entL encK encV L) = entL encK encV (putL k v L)
  | [] => rfl
  | (a, b) :: l => by
    have ih := putKey_eq hk k v l
    unfold entL at ih
    show putKey (encK k) (encV v) ((encK a, encV b) :: l.map _) = _
    simp only [putKey, hk.eqs, putL, ih, Option.getD_some]
    cases k == a <;> rfl
theorem delKey_eq (hk : KeyOk encK) (k : α) : ∀ L : List (α × β), delKey (encK k) (entL encK encV L) = entL encK encV (delL k L)
  | [] => rfl
  | (a, b) :: l => by
    have ih := delKey_eq hk k l
    unfold entL at ih
    show delKey (encK k) ((encK a, encV b) :: l.map _) = _
    simp only [delKey, hk.eqs, delL, ih, Option.getD_some]
    cases k == a <;> rfl
theorem put_eq (hk : KeyOk encK) (h : es = entL encK encV L) (k : α) (v : β) : putKey (encK k) (encV v) es = entL encK encV (putL k v L) := by rw [h]; exact putKey_eq hk k v L
theorem del_eq (hk : KeyOk encK) (h : es = entL encK encV L) (k : α) : delKey (encK k) es = entL encK encV (delL k L) := by rw [h]; exact delKey_eq hk k L
theorem find2 (hk : KeyOk encK) (d : β) (h : es = entL encK encV L) (k : α) :
    SameV (.tuple [(findKey (encK k) es).getD (encV d), .bool (findKey (encK k) es).isSome]) (.tuple [encV ((lk k L).getD d), .bool (lk k L).isSome]) := by
  rw [h, findKey_eq hk k L]
  cases lk k L <;> exact .refl _
theorem find1 (hk : KeyOk encK) (hd : ∀ x, disAgg (encV x) = encV x) (d : β) (h : es = entL encK encV L) (k : α) :
    SameV (disAgg ((findKey (encK k) es).getD (encV d))) (encV ((lk k L).getD d)) := by
  rw [h, findKey_eq hk k L]
  cases lk k L with
  | none => show SameV (disAgg (encV d)) (encV d); rw [hd]; exact .refl _
  | some b => show SameV (disAgg (encV b)) (encV b); rw [hd]; exact .refl _
end

section
variable {α β : Type} {encK : α → AVal} {encV : β → AVal} {es : List (AVal × AVal)} {L : List (α × β)}
theorem all_keys (ti : Option TI) (h : es = entL encK encV L) (hk : ∀ a, isKey ti (encK a) = true) : (es.all fun e => isKey ti e.1) = true := by
  rw [h, List.all_eq_true]
  intro e he
  obtain ⟨p, _, rfl⟩ := List.mem_map.1 he
  exact hk _
theorem len_eq (h : es = entL encK encV L) : SameV (.int .i64 (es.length : Int)) (.int .i64 (L.length : Int)) := by
  rw [h]; simp only [entL, List.length_map]; exact .refl _
end

/-! ### Encodings of elements -/
structure EncOk {α : Type} (ag : Bool) (esz : Nat) (enc : α → AVal) : Prop where
  pos : 0 < esz
  len : ∀ x, (enc x).cells.length = esz
  elem : ∀ x, mkElem ag esz (enc x).cells 0 = enc x
  noRef : ∀ x, (enc x).cells.all noRef = true
  dis : ∀ x, disAgg (enc x) = enc x
theorem okInt (k : IntKind) : EncOk false 1 (AVal.int k) := ⟨by decide, fun _ => rfl, fun _ => rfl, fun _ => rfl, fun _ => rfl⟩
theorem okBool : EncOk false 1 AVal.bool := ⟨by decide, fun _ => rfl, fun _ => rfl, fun _ => rfl, fun _ => rfl⟩
theorem okStr : EncOk false 1 AVal.str := ⟨by decide, fun _ => rfl, fun _ => rfl, fun _ => rfl, fun _ => rfl⟩

section
variable {α : Type} {ag : Bool} {esz : Nat} {enc : α → AVal} {d x y : α} {l m L : List α} {cs ps : List AVal} {z : AVal}
def cellsL (enc : α → AVal) (L : List α) : List AVal := L.flatMap fun x => (enc x).cells

theorem cellsL_len (ok : EncOk ag esz enc) : ∀ L : List α, (cellsL enc L).length = L.length * esz
  | [] => by simp [cellsL]
  | a :: l => by
    have := cellsL_len ok l
    simp only [cellsL, List.flatMap_cons, List.length_append, ok.len, List.length_cons, Nat.add_mul, Nat.one_mul] at *
    omega
theorem cellsL_get (ok : EncOk ag esz enc) : ∀ (L : List α) (i o : Nat), i < L.length → o < esz → (cellsL enc L)[i * esz + o]? = ((enc (L.getD i d)).cells)[o]?
  | [], i, o, h, _ => by simp at h
  | a :: l, 0, o, _, ho => by
    simp only [cellsL, List.flatMap_cons, Nat.zero_mul, Nat.zero_add]
    rw [List.getElem?_append_left (by rw [ok.len]; exact ho)]
    rfl
  | a :: l, i + 1, o, h, ho => by
    have ih := cellsL_get ok l i o (by simpa using h) ho
    simp only [cellsL, List.flatMap_cons] at ih ⊢
    rw [List.getElem?_append_right (by rw [ok.len, Nat.add_mul]; omega), ok.len, show (i + 1) * esz + o - esz = i * esz + o by rw [Nat.add_mul]; omega, ih]
    simp [List.getD]
theorem cellsL_part (ok : EncOk ag esz enc) (L : List α) (i : Nat) (h : i < L.length) : ((cellsL enc L).drop (i * esz)).take esz = (enc (L.getD i d)).cells := by
  apply List.ext_getElem?; intro o
  by_cases ho : o < esz
  · rw [List.getElem?_take_of_lt ho, List.getElem?_drop, cellsL_get ok L i o h ho]
  · rw [List.getElem?_eq_none (by rw [List.length_take]; omega), List.getElem?_eq_none (by rw [ok.len]; omega)]
theorem cellsL_elem (ok : EncOk ag esz enc) (L : List α) (i : Nat) (h : i < L.length) : mkElem ag esz (cellsL enc L) (i * esz) = enc (L.getD i d) := by
  have h1 := ok.elem (L.getD i d)
  have h2 := cellsL_part (d := d) ok L i h
  unfold mkElem at *
  cases ag with
  | true =>
    simp only [cond_true, List.drop_zero] at *
    rw [h2, ← h1, List.take_of_length_le (by rw [ok.len]; exact Nat.le_refl _)]
    cases he : enc (L.getD i d) <;> rw [he] at h1 <;> simp_all [AVal.cells]
  | false =>
    simp only [cond_false] at *
    rw [← h1]
    simp only [List.getD]
    have := cellsL_get (d := d) ok L i 0 h ok.pos
    rw [Nat.add_zero] at this
    rw [this]; rfl
theorem cellsL_noRef (ok : EncOk ag esz enc) (L : List α) : (cellsL enc L).all noRef = true := by
  rw [List.all_eq_true]; intro c hc
  obtain ⟨x, _, hx⟩ := List.mem_flatMap.1 hc
  exact List.all_eq_true.1 (ok.noRef x) c hx

theorem mul_le_iff {a b k o s : Nat} (ho : o + s ≤ k) (hs : 0 < s) : a * k + o + s ≤ b * k ↔ a < b := by
  constructor
  · intro h
    rcases Nat.lt_or_ge a b with h1 | h1
    · exact h1
    · have := Nat.mul_le_mul_right k h1; omega
  · intro h
    have := Nat.mul_le_mul_right k (show a + 1 ≤ b from h)
    rw [Nat.add_mul] at this; omega
theorem ble_eq (ok : EncOk ag esz enc) (h : cs = cellsL enc L) (i o s : Nat) (ho : o + s ≤ esz) (hs : 0 < s) : Nat.ble (0 + i * esz + o + s) cs.length = Nat.blt i L.length := by
  rw [h, cellsL_len ok, Nat.zero_add]
  have := mul_le_iff (a := i) (b := L.length) ho hs
  rw [Bool.eq_iff_iff, Nat.ble_eq, Nat.blt_eq]; exact this
theorem lt_of_blt {a b : Nat} (h : Nat.blt a b = true) : a < b := by rwa [Nat.blt_eq] at h
theorem get1_eq (ok : EncOk ag esz enc) (h : cs = cellsL enc L) (i o : Nat) (ho : o < esz) (hc : Nat.blt i L.length = true) :
    SameV (dis (cs.getD (0 + i * esz + o) .undef)) (dis ((enc (L.getD i d)).cells.getD o .undef)) := by
  rw [h, Nat.zero_add]; simp only [List.getD]
  have := cellsL_get (d := d) ok L i o (lt_of_blt hc) ho
  rw [this]; exact .refl _
theorem getA_eq {esz : Nat} (ok : EncOk true esz enc) (h : cs = cellsL enc L) (i : Nat) (hc : Nat.blt i L.length = true) :
    SameV (.agg (((cs.drop (0 + i * esz)).take esz).map dis)) (enc (L.getD i d)) := by
  have h1 := cellsL_elem (d := d) ok L i (lt_of_blt hc)
  have h2 := ok.dis (L.getD i d)
  unfold mkElem at h1
  simp only [cond_true] at h1
  rw [h, Nat.zero_add]
  rw [← h1] at h2
  simp only [disAgg] at h2
  rw [h2, h1]; exact .refl _
theorem overX_get {cs ps : List AVal} {off j : Nat} (h : off + ps.length ≤ cs.length) : (over cs off ps)[j]? = if off ≤ j ∧ j < off + ps.length then ps[j - off]? else cs[j]? := by
  unfold over
  have hl : (cs.take off).length = off := by rw [List.length_take]; omega
  by_cases h1 : j < off
  · rw [if_neg (by omega), List.append_assoc, List.getElem?_append_left (by omega), List.getElem?_take_of_lt h1]
  · by_cases h2 : j < off + ps.length
    · rw [if_pos ⟨by omega, h2⟩, List.getElem?_append_left (by rw [List.length_append]; omega), List.getElem?_append_right (by omega), hl]
    · rw [if_neg (by omega), List.getElem?_append_right (by rw [List.length_append]; omega), List.getElem?_drop, List.length_append, hl]
      congr 1; omega
theorem set_eq (ok : EncOk ag esz enc) (h : cs = cellsL enc L) (i : Nat) (y : α) (o : Nat) (ho : o + ps.length ≤ esz) (hy : over (enc (L.getD i d)).cells o ps = (enc y).cells) (hc : Nat.blt i L.length = true) :
    over cs (0 + i * esz + o) ps = cellsL enc (L.set i y) := by
  have hi := lt_of_blt hc
  rw [h, Nat.zero_add]
  apply List.ext_getElem?; intro j
  have hlen := cellsL_len ok L
  have hb : i * esz + esz ≤ L.length * esz := by
    have := Nat.mul_le_mul_right esz (show i + 1 ≤ L.length from hi); rw [Nat.add_mul] at this; omega
  rw [overX_get (by rw [hlen]; omega)]
  by_cases hj : j < L.length * esz
  · -- which element is it?
    have hq : j / esz < L.length := (Nat.div_lt_iff_lt_mul ok.pos).2 hj
    have hm : j % esz < esz := Nat.mod_lt _ ok.pos
    have hd : j = j / esz * esz + j % esz := by have := Nat.div_add_mod j esz; rw [Nat.mul_comm] at this; omega
    have g1 := cellsL_get (d := d) ok L (j / esz) (j % esz) hq hm
    have g2 := cellsL_get (d := d) ok (L.set i y) (j / esz) (j % esz) (by simpa using hq) hm
    rw [← hd] at g1 g2
    rw [g2]
    by_cases e : j / esz = i
    · have hset : (L.set i y).getD (j / esz) d = y := by rw [e]; simp [List.getD, hi]
      rw [hset, ← hy, overX_get (by rw [ok.len]; exact ho)]
      rw [g1, e]
      have : j = i * esz + j % esz := by rw [← e]; exact hd
      by_cases hin : o ≤ j % esz ∧ j % esz < o + ps.length
      · rw [if_pos hin, if_pos (by omega), show j - (i * esz + o) = j % esz - o by omega]
      · rw [if_neg hin, if_neg (by omega)]
    · have hset : (L.set i y).getD (j / esz) d = L.getD (j / esz) d := by simp [List.getD, List.getElem?_set, Ne.symm e]
      rw [hset, ← g1, if_neg]
      intro hh
      have h1 : i * esz ≤ j := by omega
      have h2 : j < i * esz + esz := by omega
      exact e (Nat.div_eq_of_lt_le (by omega) (by rw [Nat.add_mul]; omega))
  · rw [if_neg (by omega), List.getElem?_eq_none (by rw [hlen]; omega), List.getElem?_eq_none (by rw [cellsL_len ok, List.length_set]; omega)]
theorem rep_eq (enc : α → AVal) (d : α) (n : Nat) : (List.replicate n (enc d).cells).flatten = cellsL enc (List.replicate n d) := by
  induction n with
  | zero => rfl
  | succ n ih => simp only [List.replicate_succ, List.flatten_cons, cellsL, List.flatMap_cons] at *; rw [ih]
/-- A part of a list, cleared. -/
def clrL (o n : Nat) (d : α) (L : List α) : List α := L.take o ++ List.replicate n d ++ L.drop (o + n)
theorem cellsL_app (enc : α → AVal) (a b : List α) : cellsL enc (a ++ b) = cellsL enc a ++ cellsL enc b := by simp [cellsL]
theorem cellsL_td (ok : EncOk ag esz enc) : ∀ (L : List α) (o : Nat), (cellsL enc L).take (o * esz) = cellsL enc (L.take o) ∧ (cellsL enc L).drop (o * esz) = cellsL enc (L.drop o)
  | [], o => by simp [cellsL]
  | a :: l, 0 => by simp [cellsL]
  | a :: l, o + 1 => by
    obtain ⟨h1, h2⟩ := cellsL_td ok l o
    have hl : (enc a).cells.length = esz := ok.len a
    have he : (o + 1) * esz = (enc a).cells.length + o * esz := by rw [hl, Nat.add_mul]; omega
    constructor
    · rw [he]; simp only [cellsL, List.flatMap_cons, List.take_succ_cons, List.take_length_add_append] at *; rw [h1]
    · rw [he]; simp only [cellsL, List.flatMap_cons, List.drop_succ_cons, List.drop_length_add_append] at *; rw [h2]
theorem ble_clear (ok : EncOk ag esz enc) (h : cs = cellsL enc L) (o n : Nat) : Nat.ble (0 + o * esz + n * esz) cs.length = Nat.ble (o + n) L.length := by
  rw [h, cellsL_len ok, Nat.zero_add, Bool.eq_iff_iff, Nat.ble_eq, Nat.ble_eq, ← Nat.add_mul]
  exact Nat.mul_le_mul_right_iff ok.pos
theorem clear_eq (ok : EncOk ag esz enc) (h : cs = cellsL enc L) (o n : Nat) (d : α) : over cs (0 + o * esz) (List.replicate n (enc d).cells).flatten = cellsL enc (clrL o n d L) := by
  rw [h, Nat.zero_add, rep_eq]
  unfold over clrL
  rw [cellsL_len ok, List.length_replicate, ← Nat.add_mul, (cellsL_td ok L o).1, (cellsL_td ok L (o + n)).2, cellsL_app, cellsL_app]
theorem cellsOf_eq (ok : EncOk ag esz enc) (d : α) (L : List α) : cellsOf L.length (fun i => enc (L.getD i d)) = cellsL enc L := by
  simp only [cellsOf, ok.dis]
  show ((List.range L.length).flatMap fun i => (enc (L.getD i d)).cells) = _
  unfold cellsL
  rw [List.flatMap_def, List.flatMap_def]
  congr 1
  apply List.ext_getElem?; intro j
  simp only [List.getElem?_map]
  by_cases h : j < L.length
  · simp [List.getElem?_range h, List.getElem?_eq_getElem h, List.getD]
  · rw [List.getElem?_eq_none (by simpa using h), List.getElem?_eq_none (by simpa using h)]; rfl

/-! ### Frozen arrays -/
theorem frz_full {n : Nat} (ok : EncOk ag esz enc) (h : cs = cellsL enc L) (hn : n = L.length) : (Nat.ble (0 + n * esz) cs.length && cs.all noRef) = true := by
  rw [h, cellsL_len ok, cellsL_noRef ok, hn, Nat.zero_add]; simp
theorem frz_part {n : Nat} (ok : EncOk ag esz enc) (h : cs = cellsL enc L) : (Nat.ble (0 + n * esz) cs.length && cs.all noRef) = Nat.ble n L.length := by
  rw [h, cellsL_len ok, cellsL_noRef ok, Nat.zero_add, Bool.and_true, Bool.eq_iff_iff, Nat.ble_eq, Nat.ble_eq]
  exact Nat.mul_le_mul_right_iff ok.pos
theorem same_frozen {n : Nat} (ok : EncOk ag esz enc) (d : α) (h : cs = cellsL enc L) (hn : n = L.length) : SameV (.slice .shared esz n (fun i => mkElem ag esz cs (0 + i * esz))) (encL esz enc d L) := by
  unfold encL; rw [hn]
  exact .slice _ _ _ _ _ fun i hi => by rw [h, Nat.zero_add]; exact cellsL_elem ok L i hi
theorem same_frozenT {n : Nat} (ok : EncOk ag esz enc) (d : α) (h : cs = cellsL enc L) (hn : Nat.ble n L.length = true) : SameV (.slice .shared esz n (fun i => mkElem ag esz cs (0 + i * esz))) (encL esz enc d (L.take n)) := by
  have hn := Nat.le_of_ble_eq_true hn
  have hl : (L.take n).length = n := by rw [List.length_take]; omega
  unfold encL
  rw [hl]
  exact .slice _ _ _ _ _ fun i hi => by
    rw [h, Nat.zero_add, cellsL_elem (d := d) ok L i (by omega)]
    simp [List.getD, List.getElem?_take_of_lt hi]

/-! ### Appends and parts -/
theorem bslS {n : Nat} (ok : EncOk ag esz enc) (hcs : cs = cellsL enc l) (hn : n = l.length := by rfl) : SameV (.slice .exact esz n (fun j => bif Nat.ble (j + 1) n then mkElem ag esz cs (j * esz) else z)) (encO .exact esz enc d l) := by
  unfold encO; rw [hn]
  exact .slice _ _ _ _ _ fun i hi => by rw [Nat.ble_eq_true_of_le hi, cond_true, hcs]; exact cellsL_elem ok l i hi
theorem pushS (ok : EncOk ag esz enc) (hcs : cs = (enc x).cells) :
    SameV (.slice .own esz (l.length + 1) (glue l.length (fun i => enc (l.getD i d)) (fun j => bif Nat.ble (j + 1) 1 then mkElem ag esz cs (j * esz) else z))) (encO .own esz enc d (l ++ [x])) :=
  same_push (fun _ _ => rfl) (by simp only [Nat.zero_add, Nat.zero_mul, hcs, ok.elem]; rfl)
theorem pushSN (ok : EncOk ag esz enc) (hcs : cs = (enc x).cells) :
    SameV (.slice .own esz (0 + 1) (glue 0 (fun _ => .undef) (fun j => bif Nat.ble (j + 1) 1 then mkElem ag esz cs (j * esz) else z))) (encO .own esz enc d [x]) :=
  same_push (l := []) (fun i hi => by simp at hi) (by simp only [Nat.zero_mul, hcs, ok.elem]; rfl)
theorem appS : SameV (.slice .own esz (l.length + m.length) (glue l.length (fun i => enc (l.getD i d)) (fun i => enc (m.getD i d)))) (encO .own esz enc d (l ++ m)) :=
  same_append rfl (fun _ _ => rfl) (fun _ _ => rfl)
theorem appSN : SameV (.slice .own esz (0 + m.length) (glue 0 (fun _ => .undef) (fun i => enc (m.getD i d)))) (encO .own esz enc d m) :=
  same_append (l := []) rfl (fun i hi => by simp at hi) (fun _ _ => rfl)
section
variable {sp : Spare} {lo hi mx : Int}
theorem partS (hc : (decide ((0 : Int) ≤ lo) && decide (lo ≤ hi) && decide (hi ≤ (l.length : Int))) = true) :
    SameV (.slice sp esz (hi.toNat - lo.toNat) (fun j => enc (l.getD (lo.toNat + j) d))) (encO sp esz enc d (List.drop lo.toNat (List.take hi.toNat l))) := by
  simp only [Bool.and_eq_true, decide_eq_true_eq] at hc
  exact same_part (f := fun i => enc (l.getD i d)) (by omega) (by omega) (fun _ _ => rfl)
theorem partSH (hc : (decide ((0 : Int) ≤ 0) && decide (0 ≤ hi) && decide (hi ≤ (l.length : Int))) = true) :
    SameV (.slice sp esz (hi.toNat - (0 : Int).toNat) (fun j => enc (l.getD ((0 : Int).toNat + j) d))) (encO sp esz enc d (List.take hi.toNat l)) := partS (lo := 0) hc
theorem partST (hc : (decide ((0 : Int) ≤ lo) && decide (lo ≤ (l.length : Int)) && decide ((l.length : Int) ≤ (l.length : Int))) = true) :
    SameV (.slice sp esz ((l.length : Int).toNat - lo.toNat) (fun j => enc (l.getD (lo.toNat + j) d))) (encO sp esz enc d (List.drop lo.toNat l)) := by
  have := partS (sp := sp) (esz := esz) (enc := enc) (d := d) hc
  simpa using this
theorem partSA (hc : (decide ((0 : Int) ≤ 0) && decide (0 ≤ (l.length : Int)) && decide ((l.length : Int) ≤ (l.length : Int))) = true) :
    SameV (.slice sp esz ((l.length : Int).toNat - (0 : Int).toNat) (fun j => enc (l.getD ((0 : Int).toNat + j) d))) (encO sp esz enc d l) := partST (lo := 0) hc
theorem and3 {a b : Bool} (h : (a && b) = true) : a = true := by cases a <;> simp_all
end
end

/-! ### Lists of values, heaps -/
inductive SameL : List AVal → List AVal → Prop where
  | nil : SameL [] []
  | cons {a b : AVal} {l m : List AVal} (h : SameV a b) (hl : SameL l m) : SameL (a :: l) (b :: m)
theorem SameL.spec {l m : List AVal} (h : SameL l m) : l.length = m.length ∧ ∀ (i : Nat) c c', l[i]? = some c → m[i]? = some c' → SameV c c' := by
  induction h with
  | nil => exact ⟨rfl, fun i c c' h => by simp at h⟩
  | cons h hl ih =>
    refine ⟨by simp [ih.1], fun i c c' h1 h2 => ?_⟩
    cases i with
    | zero => simp at h1 h2; rw [← h1, ← h2]; exact h
    | succ i => exact ih.2 i c c' (by simpa using h1) (by simpa using h2)
theorem SameV.agg_of {l m : List AVal} (h : SameL l m) : SameV (.agg l) (.agg m) := .agg _ _ h.spec.1 h.spec.2
theorem SameV.tuple_of {l m : List AVal} (h : SameL l m) : SameV (.tuple l) (.tuple m) := .tuple _ _ h.spec.1 h.spec.2
theorem HObj.arr_of {a b : List AVal} (h : a = b) : HObj.arr a = .arr b := by rw [h]
theorem HObj.map_of {a b : List (AVal × AVal)} (h : a = b) : HObj.map a = .map b := by rw [h]
theorem cons_of {α : Type} {a b : α} {l m : List α} (h : a = b) (h2 : l = m) : a :: l = b :: m := by rw [h, h2]
theorem ret_of {v : AVal} {H H' : List HObj} (h : H = H') : (v, H) = (v, H') := by rw [h]
theorem SameO.rfl (o : HObj) : SameO o o := .refl o
/-! ### Walks over maps -/
section
variable {α β : Type}
def entO (encK : α → AVal) (encV : β → AVal) : Option (α × β) → Option (AVal × AVal)
  | some p => some (encK p.1, encV p.2)
  | none => none
theorem entL_len (encK : α → AVal) (encV : β → AVal) (T : List (α × β)) : (entL encK encV T).length = T.length := by simp [entL]
theorem entL_empty (encK : α → AVal) (encV : β → AVal) (T : List (α × β)) : (entL encK encV T).isEmpty = T.isEmpty := by cases T <;> rfl
theorem next_eq {m : Nat} {encK : α → AVal} {encV : β → AVal} {es T : List (α × β)} {d : α × β} {j : Nat} (hj : j < T.length) :
    HObj.iter m (entL encK encV es) ((entL encK encV T).eraseIdx j) (some ((entL encK encV T).getD j (.undef, .undef))) = .iter m (entL encK encV es) (entL encK encV (T.eraseIdx j)) (entO encK encV (some (T.getD j d))) := by
  have h1 : (entL encK encV T).eraseIdx j = entL encK encV (T.eraseIdx j) := by
    apply List.ext_getElem?; intro i
    simp only [entL, List.getElem?_eraseIdx, List.getElem?_map]
    split <;> rfl
  have h2 : (entL encK encV T).getD j (.undef, .undef) = (encK (T.getD j d).1, encV (T.getD j d).2) := by
    simp [entL, List.getD, List.getElem?_eq_getElem hj]
  rw [h1, h2]; rfl
end
/-! ### Bytes -/
def bytesOf (l : List Int) : ByteArray := ⟨(l.map fun n => UInt8.ofNat n.toNat).toArray⟩
theorem str_bytes (l : List Int) {sp : Nat → AVal} (h : sp = fun i => .int .u8 (l.getD i 0) := by rfl) : SameV (.str (strOf l.length sp)) (.str (bytesOf l)) := by
  have : strOf l.length sp = bytesOf l := by
    subst h
    unfold strOf bytesOf
    congr 2
    apply List.ext_getElem
    · simp
    · intro i h1 h2
      simp at h1
      simp [intOf', List.getD, List.getElem?_eq_getElem h1]
  rw [this]; exact .refl _
theorem u8_all (l : List Int) {sp : Nat → AVal} (h : sp = fun i => .int .u8 (l.getD i 0) := by rfl) : (true && allU8 l.length sp) = true := by
  subst h
  simp [allU8, isU8]
theorem strOf_same {n : Nat} {f g : Nat → AVal} (h : ∀ i, i < n → f i = g i) : strOf n f = strOf n g := by
  unfold strOf
  congr 2
  exact List.map_congr_left fun i hi => by rw [h i (List.mem_range.1 hi)]
theorem mk_u8 (ok : EncOk false 1 (AVal.int .u8)) {L : List Int} {cs : List AVal} (h : cs = cellsL (AVal.int .u8) L) (i : Nat) (hi : i < L.length) : mkElem false 1 cs (0 + i * 1) = .int .u8 (L.getD i 0) := by
  rw [h, Nat.zero_add]; exact cellsL_elem ok L i hi
theorem u8_allM (ok : EncOk false 1 (AVal.int .u8)) {L : List Int} {cs : List AVal} {n : Nat} (h : cs = cellsL (AVal.int .u8) L) (hn : n = L.length) : ((Nat.ble (0 + n * 1) cs.length && cs.all noRef) && allU8 n fun i => mkElem false 1 cs (0 + i * 1)) = true := by
  rw [frz_full ok h hn, Bool.true_and]
  unfold allU8
  refine List.all_eq_true.2 fun i hi => ?_
  have hi := List.mem_range.1 hi
  show isU8 (mkElem false 1 cs (0 + i * 1)) = true
  rw [mk_u8 ok h i (by omega)]; rfl
theorem str_bytesM (ok : EncOk false 1 (AVal.int .u8)) {L : List Int} {cs : List AVal} {n : Nat} (h : cs = cellsL (AVal.int .u8) L) (hn : n = L.length) : SameV (.str (strOf n fun i => mkElem false 1 cs (0 + i * 1))) (.str (bytesOf L)) := by
  have e : strOf n (fun i => mkElem false 1 cs (0 + i * 1)) = strOf L.length fun i => .int .u8 (L.getD i 0) := by
    rw [hn]; exact strOf_same fun i hi => mk_u8 ok h i hi
  rw [e]; exact str_bytes L
theorem u8_partM (ok : EncOk false 1 (AVal.int .u8)) {L : List Int} {cs : List AVal} {n : Nat} (h : cs = cellsL (AVal.int .u8) L) : ((Nat.ble (0 + n * 1) cs.length && cs.all noRef) && allU8 n fun i => mkElem false 1 cs (0 + i * 1)) = Nat.ble n L.length := by
  rw [frz_part ok h]
  cases hb : Nat.ble n L.length with
  | false => rfl
  | true =>
    have hn := Nat.le_of_ble_eq_true hb
    rw [Bool.true_and]
    unfold allU8
    refine List.all_eq_true.2 fun i hi => ?_
    have hi := List.mem_range.1 hi
    show isU8 (mkElem false 1 cs (0 + i * 1)) = true
    rw [mk_u8 ok h i (by omega)]; rfl
theorem str_bytesT (ok : EncOk false 1 (AVal.int .u8)) {L : List Int} {cs : List AVal} {n : Nat} (h : cs = cellsL (AVal.int .u8) L) (hn : Nat.ble n L.length = true) : SameV (.str (strOf n fun i => mkElem false 1 cs (0 + i * 1))) (.str (bytesOf (L.take n))) := by
  have hn := Nat.le_of_ble_eq_true hn
  have hl : (L.take n).length = n := by rw [List.length_take]; omega
  have e : strOf n (fun i => mkElem false 1 cs (0 + i * 1)) = strOf (L.take n).length fun i => .int .u8 ((L.take n).getD i 0) := by
    rw [hl]
    exact strOf_same fun i hi => by rw [mk_u8 ok h i (by omega)]; simp [List.getD, List.getElem?_take_of_lt hi]
  rw [e]; exact str_bytes (L.take n)
theorem Dn.cndE {R α : Type} {C : FuncId → List AVal → List HObj → AVal → List HObj → Prop} {enc : α → R} {t : Tree R} {c c' : Bool} {X Y : Option α} (e : c = c') (h : t.head = .cnd c) (h1 : Dn C enc t.tt X) (h2 : Dn C enc t.ff Y) : Dn C enc t (bif c' then X else Y) := e ▸ Dn.cnd h h1 h2
theorem Dn.allE {R α : Type} [DecidableEq α] {C : FuncId → List AVal → List HObj → AVal → List HObj → Prop} {enc : α → R} {t : Tree R} {n n' : Nat} {F : Nat → Option α} (e : n = n') (h : t.head = .all n) (h1 : ∀ j, j < n' → Dn C enc (t.an j) (F j)) : Dn C enc t (agree n' F) := by
  subst e; exact Dn.all h h1
theorem SameO.of_eq {o o' : HObj} (h : o = o') : SameO o o' := h ▸ .refl o
theorem SameO.arr_of {a b : List AVal} (h : a = b) : SameO (.arr a) (.arr b) := h ▸ SameO.rfl _
theorem SameO.map_of {a b : List (AVal × AVal)} (h : a = b) : SameO (.map a) (.map b) := h ▸ SameO.rfl _
theorem sameH_nil : SameH [] [] := ⟨_root_.rfl, fun i o o' h => by simp at h⟩
theorem sameH_cons {o o' : HObj} {H H' : List HObj} (h : SameO o o') (hl : SameH H H') : SameH (o :: H) (o' :: H') := by
  refine ⟨by simp [hl.1], fun i a b h1 h2 => ?_⟩
  cases i with
  | zero => simp at h1 h2; rw [← h1, ← h2]; exact h
  | succ i => exact hl.2 i a b (by simpa using h1) (by simpa using h2)

abbrev U : AVal := .undef
def lkN {α : Type} (f : Nat) : List (Nat × α) → Option α
  | [] => none
  | (g, a) :: l => bif Nat.beq g f then some a else lkN f l

/-- The keys in ascending order. -/
def insS (a : ByteArray) : List ByteArray → List ByteArray
  | [] => [a]
  | b :: l => bif sLe a b then a :: b :: l else b :: insS a l
def isort : List ByteArray → List ByteArray
  | [] => []
  | a :: l => insS a (isort l)
/-- What a builder of strings does. -/
def bWrite (n : Nat) (b s : ByteArray) : Option ByteArray := match n with
  | 0 => none
  | _ + 1 => bif decide (b.size + s.size ≤ 140737488355328) then some (b ++ s) else none
def bByte (n : Nat) (b : ByteArray) (c : Int) : Option ByteArray := match n with
  | 0 => none
  | _ + 1 => bif decide (b.size + 1 ≤ 140737488355328) && (decide (0 ≤ c) && decide (c < 256)) then some (b.push (UInt8.ofNat c.toNat)) else none
def bLen (n : Nat) (b : ByteArray) : Option Int := match n with
  | 0 => none
  | _ + 1 => some (b.size : Int)
def bString (n : Nat) (b : ByteArray) : Option ByteArray := match n with
  | 0 => none
  | _ + 1 => bif decide (1 ≤ b.size) then some b else none
/-- What WriteString, Len, String are, of a builder of types T, e. -/
def relWrite (T e : TypeId) (args : List AVal) (H : List HObj) (r : AVal) (H' : List HObj) : Prop :=
  ∃ id b s, args = [.href id 0, .str s] ∧ H[id]? = some (.bld T e b) ∧ b.size + s.size ≤ 140737488355328 ∧ r = .tuple [.int .i64 s.size, .nilIface] ∧ H' = H.set id (.bld T e (b ++ s))
def relByte (T e : TypeId) (args : List AVal) (H : List HObj) (r : AVal) (H' : List HObj) : Prop :=
  ∃ id b c, args = [.href id 0, .int .u8 c] ∧ H[id]? = some (.bld T e b) ∧ b.size + 1 ≤ 140737488355328 ∧ 0 ≤ c ∧ c < 256 ∧ r = .nilIface ∧ H' = H.set id (.bld T e (b.push (UInt8.ofNat c.toNat)))
def relLen (T e : TypeId) (args : List AVal) (H : List HObj) (r : AVal) (H' : List HObj) : Prop :=
  ∃ id b, args = [.href id 0] ∧ H[id]? = some (.bld T e b) ∧ r = .int .i64 b.size ∧ H' = H
def relString (T e : TypeId) (args : List AVal) (H : List HObj) (r : AVal) (H' : List HObj) : Prop :=
  ∃ id b, args = [.href id 0] ∧ H[id]? = some (.bld T e b) ∧ 1 ≤ b.size ∧ r = .str b ∧ H' = H
def sortedKeys (n : Nat) (L : List (ByteArray × Int)) : Option (List ByteArray) := match n with
  | 0 => none
  | _ + 1 => bif decide (L.length * 16 ≤ 140737488355328) && L.all (fun p => decide (p.1.size ≤ 9223372036854775807)) then some (isort (L.map (·.1))) else none

/-! ### The proofs' short words -/
/-- The same, told as a row that may be written. -/
inductive SortR where
  | nil0
  | row (l : List ByteArray)
def sortR (l : List ByteArray) : SortR := bif l.isEmpty then .nil0 else .row l
def sortedM (n : Nat) (L : List (ByteArray × Int)) : Option SortR := (sortedKeys n L).bind fun l => some (sortR l)
def sortE (H : List HObj) : SortR → AVal × List HObj
  | .nil0 => (encL 1 AVal.str bE [], H)
  | .row l => (.mslice H.length 0 l.length 1 false, H ++ [.arr (cellsL AVal.str l)])
/-! ### Slices with all their cells -/
theorem SameV.of_eq {a b : AVal} (h : a = b) : SameV a b := h ▸ .refl a
def bytesL (s : ByteArray) : List Int := s.data.toList.map fun b => (b.toNat : Int)
theorem bytesL_len (s : ByteArray) : (bytesL s).length = s.size := by unfold bytesL; rw [List.length_map, Array.length_toList]; rfl
section
variable {α : Type} {ag : Bool} {esz : Nat} {enc : α → AVal} {d x y : α} {L M : List α} {cs ps : List AVal}
theorem cells_str (s : ByteArray) : cellsOf s.size (byteAt s) = cellsL (AVal.int .u8) (bytesL s) := by
  have h := cellsOf_eq (okInt .u8) 0 (bytesL s)
  rw [bytesL_len] at h
  rw [← h]
  unfold cellsOf
  rw [List.flatMap_def, List.flatMap_def]
  congr 1
  refine List.map_congr_left fun i hi => ?_
  have hi : i < s.data.toList.length := by have := List.mem_range.1 hi; rw [Array.length_toList]; exact this
  simp [byteAt, bytesL, List.getD, List.getElem?_eq_getElem hi]
theorem vecStr (L : List Int) (s : ByteArray) : SameV (.vec 1 (L.length + s.size) (cellsL (AVal.int .u8) L ++ cellsOf s.size (byteAt s))) (.vec 1 (L ++ bytesL s).length (cellsL (AVal.int .u8) (L ++ bytesL s))) :=
  .of_eq (by rw [cells_str, cellsL_app, List.length_append, bytesL_len])
theorem ble_vec (ok : EncOk ag esz enc) (L : List α) (i : Nat) : Nat.ble (i * esz + esz) (cellsL enc L).length = Nat.blt i L.length := by
  have := ble_eq ok (rfl : cellsL enc L = _) i 0 esz (by omega) ok.pos
  rwa [Nat.zero_add, Nat.add_zero] at this
theorem get_vec (ok : EncOk false esz enc) (d : α) (L : List α) (i : Nat) (hc : Nat.blt i L.length = true) : SameV (AM.dis ((cellsL enc L).getD (i * esz) .undef)) (enc (L.getD i d)) := by
  have h1 := cellsL_elem (d := d) ok L i (lt_of_blt hc)
  have h2 := ok.dis (L.getD i d)
  unfold mkElem at h1
  simp only [cond_false] at h1
  rw [h1]
  refine .of_eq ?_
  cases he : enc (L.getD i d) <;> rw [he] at h2 <;> first | rfl | exact h2
theorem vec_set (ok : EncOk ag esz enc) (d : α) (L : List α) (i : Nat) (y : α) (hy : over (enc (L.getD i d)).cells 0 ps = (enc y).cells) (hl : ps.length ≤ esz) (hc : Nat.blt i L.length = true) :
    AVal.vec esz L.length (over (cellsL enc L) (i * esz) ps) = .vec esz (L.set i y).length (cellsL enc (L.set i y)) := by
  have := set_eq (d := d) ok (rfl : cellsL enc L = _) i y 0 (by omega) hy hc
  rw [Nat.zero_add, Nat.add_zero] at this
  rw [this, List.length_set]
theorem cells_at (L : List Int) (i : Nat) (h : i < L.length) : (cellsL (AVal.int .u8) L).getD i .undef = .int .u8 (L.getD i 0) := by
  have := cellsL_elem (d := 0) (okInt .u8) L i h
  simpa [mkElem] using this
theorem vec_u8 (L : List Int) : (Nat.beq L.length L.length && allU8 L.length fun i => (cellsL (AVal.int .u8) L).getD i .undef) = true := by
  rw [show Nat.beq L.length L.length = true from Nat.beq_refl _, Bool.true_and]
  unfold allU8
  refine List.all_eq_true.2 fun i hi => ?_
  have hi := List.mem_range.1 hi
  show isU8 ((cellsL (AVal.int .u8) L).getD i .undef) = true
  rw [cells_at L i hi]; rfl
theorem vec_bytes (L : List Int) : SameV (.str (strOf L.length fun i => (cellsL (AVal.int .u8) L).getD i .undef)) (.str (bytesOf L)) := by
  have e : strOf L.length (fun i => (cellsL (AVal.int .u8) L).getD i .undef) = strOf L.length fun i => .int .u8 (L.getD i 0) := strOf_same fun i hi => cells_at L i hi
  rw [e]; exact str_bytes L
theorem idx_int {k : IntKind} {i : Int} {n : Nat} (l : List Int) (hc : (decide (0 ≤ i) && decide (i < (n : Int)) && Nat.ble (i.toNat * 1 + 1) l.length) = true) :
    SameV (disAgg (mkElem false 1 (l.map (AVal.int k)) (i.toNat * 1))) (.int k (l.getD i.toNat 0)) := by
  simp only [Bool.and_eq_true] at hc
  have h := Nat.le_of_ble_eq_true hc.2
  have h2 : i.toNat < l.length := by omega
  have e : (l.map (AVal.int k)).getD i.toNat .undef = .int k (l.getD i.toNat 0) := by simp only [List.getD, List.getElem?_map, List.getElem?_eq_getElem h2]; rfl
  show SameV (disAgg ((l.map (AVal.int k)).getD (i.toNat * 1) .undef)) _
  rw [Nat.mul_one, e]; exact .refl _
end
theorem Dn.raw {R α β : Type} {C : FuncId → List AVal → List HObj → AVal → List HObj → Prop} {enc : α → R} {X : Option α} {a b : β} (F : β → Tree R) (h : a = b) (hk : Dn C enc (F b) X) : Dn C enc (F a) X := by subst h; exact hk
/-- Behind k tests that are decided. -/
def Tree.sk {R : Type} : Nat → Tree R → Tree R
  | 0, t => t
  | k + 1, .cnd b t e => bif b then Tree.sk k t else Tree.sk k e
  | _ + 1, _ => .none
def us : Nat → List AVal → List AVal
  | 0, l => l
  | k + 1, l => .undef :: us k l
section
variable {R α β : Type} {C : FuncId → List AVal → List HObj → AVal → List HObj → Prop} {enc : α → R} {t : Tree R} {c : Bool} {X Y : Option α}
theorem Dy : ∀ (k : Nat) {t : Tree R}, Dn C enc (t.sk k) X → Dn C enc t X
  | 0, _, h => h
  | k + 1, t, h => by
    cases t with
    | cnd b t e =>
      cases b with
      | true => exact fun r hr => .cndT (Dy k (t := t) h r hr)
      | false => exact fun r hr => .cndF (Dy k (t := e) h r hr)
    | _ => exact fun r hr => (noDen (h r hr)).elim
theorem Dr {a : α} (h : t.head = .ret (enc a) := by kernel_rfl) : Dn C enc t (some a) := Dn.ret h
theorem Dc (h1 : Dn C enc t.tt X) (h2 : Dn C enc t.ff Y) (h : t.head = .cnd c := by kernel_rfl) : Dn C enc t (bif c then X else Y) := Dn.cnd h h1 h2
theorem Dk (h1 : Dn C enc t.tt X) (h : t.head = .cnd c := by kernel_rfl) : Dn C enc t (bif c then X else Option.none) := Dn.chk h (fun _ => h1)
theorem Dkh (h1 : c = true → Dn C enc t.tt X) (h : t.head = .cnd c := by kernel_rfl) : Dn C enc t (bif c then X else Option.none) := Dn.chk h h1
theorem De {c' : Bool} (he : c = c') (h1 : c' = true → Dn C enc t.tt X) (h : t.head = .cnd c := by kernel_rfl) : Dn C enc t (bif c' then X else Option.none) := by subst he; exact Dn.chk h h1
theorem Dm (hc : c = true) (h1 : Dn C enc t.tt X) (h : t.head = .cnd c := by kernel_rfl) : Dn C enc t X := Dn.must hc h h1
theorem Ds {a a' : AVal} (hs : SameV a a') (h1 : Dn C enc (t.sm a') X) (h : t.head = .same a := by kernel_rfl) : Dn C enc t X := Dn.same h hs h1
theorem Dh {H H' : List HObj} (hs : SameH H H') (h1 : Dn C enc (t.smH H') X) (h : t.head = .sameH H := by kernel_rfl) : Dn C enc t X := Dn.sameH h hs h1
theorem Dj {st : St} {K : St → Tree R} (h1 : Dn C enc (K st) X) (h : t.head = .join st K := by kernel_rfl) : Dn C enc t X := Dn.join h h1
theorem Dt {t' : Tree R} (h1 : Dn C enc t' X) (h : t = t' := by kernel_rfl) : Dn C enc t X := Dn.cast h h1
end
end Go.AM
