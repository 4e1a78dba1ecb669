/- From typed functions to the machine's trees. -/
import Derived.Test.YtkkinfbipndfdaaAmQ
set_option linter.unusedVariables false
namespace Go.AM

inductive Head (R : Type) where
  | none
  | ret (r : R)
  | cnd (c : Bool)
  | call (f : FuncId) (args : List AVal) (H : List HObj)
  | same (a : AVal)
  | sameH (H : List HObj)
  | any
  | join (st : St) (k : St → Tree R)
  | all (n : Nat)

namespace Tree
variable {R : Type}
def head : Tree R → Head R
  | .none => .none
  | .ret r => .ret r
  | .cnd c _ _ => .cnd c
  | .call f args H _ => .call f args H
  | .same a _ => .same a
  | .sameH H _ => .sameH H
  | .any _ _ => .any
  | .join st k => .join st k
  | .all n _ => .all n
def tt : Tree R → Tree R
  | .cnd _ t _ => t
  | _ => .none
def ff : Tree R → Tree R
  | .cnd _ _ e => e
  | _ => .none
def go : Tree R → AVal → List HObj → Tree R
  | .call _ _ _ k => k
  | _ => fun _ _ => .none
def sm : Tree R → AVal → Tree R
  | .same _ k => k
  | _ => fun _ => .none
def al : Tree R → Tree R
  | .any t _ => t
  | _ => .none
def ar : Tree R → Tree R
  | .any _ e => e
  | _ => .none
def an : Tree R → Nat → Tree R
  | .all _ k => k
  | _ => fun _ => .none
def smH : Tree R → List HObj → Tree R
  | .sameH _ k => k
  | _ => fun _ => .none
end Tree

/-- Whatever the typed function answers, the tree answers. -/
def Dn {R α : Type} (C : FuncId → List AVal → List HObj → AVal → List HObj → Prop) (enc : α → R) (t : Tree R) (x : Option α) : Prop := ∀ r, x = some r → Den C t (enc r)

section
variable {R α β : Type} {C : FuncId → List AVal → List HObj → AVal → List HObj → Prop} {enc : α → R} {t : Tree R} {c : Bool} {X Y : Option α}

theorem Dn.none : Dn C enc t none := fun r h => by cases h
theorem Dn.cast {t' : Tree R} (h : t = t') (h1 : Dn C enc t' X) : Dn C enc t X := h ▸ h1
theorem Dn.ret {a : α} (h : t.head = .ret (enc a)) : Dn C enc t (some a) := fun r e => by
  cases e
  cases t <;> simp only [Tree.head] at h <;> cases h
  exact .ret _
theorem Dn.cnd (h : t.head = .cnd c) (h1 : Dn C enc t.tt X) (h2 : Dn C enc t.ff Y) : Dn C enc t (bif c then X else Y) := fun r e => by
  cases t <;> simp only [Tree.head] at h <;> cases h
  cases c with
  | true => exact .cndT (h1 r e)
  | false => exact .cndF (h2 r e)
theorem Dn.cndh (h : t.head = .cnd c) (h1 : c = true → Dn C enc t.tt X) (h2 : c = false → Dn C enc t.ff Y) : Dn C enc t (bif c then X else Y) := fun r e => by
  cases t <;> simp only [Tree.head] at h <;> cases h
  cases c with
  | true => exact .cndT (h1 rfl r e)
  | false => exact .cndF (h2 rfl r e)
/-- A test that lets nothing by in its other branch. -/
theorem Dn.chk (h : t.head = .cnd c) (h1 : c = true → Dn C enc t.tt X) : Dn C enc t (bif c then X else Option.none) := Dn.cndh h h1 (fun _ => Dn.none)
theorem Dn.must (hc : c = true) (h : t.head = .cnd c) (h1 : Dn C enc t.tt X) : Dn C enc t X := fun r e => by
  cases t <;> simp only [Tree.head] at h <;> cases h
  subst hc
  exact .cndT (h1 r e)
theorem Dn.yes (h : t.head = .cnd true) (h1 : Dn C enc t.tt X) : Dn C enc t X := Dn.must rfl h h1
theorem Dn.no (h : t.head = .cnd false) (h1 : Dn C enc t.ff X) : Dn C enc t X := fun r e => by
  cases t <;> simp only [Tree.head] at h <;> cases h
  exact .cndF (h1 r e)
theorem Dn.same {a a' : AVal} (h : t.head = .same a) (hs : SameV a a') (h1 : Dn C enc (t.sm a') X) : Dn C enc t X := fun r e => by
  cases t <;> simp only [Tree.head] at h <;> cases h
  exact .same hs (h1 r e)
theorem Dn.sameH {H H' : List HObj} (h : t.head = .sameH H) (hs : SameH H H') (h1 : Dn C enc (t.smH H') X) : Dn C enc t X := fun r e => by
  cases t <;> simp only [Tree.head] at h <;> cases h
  exact .sameH hs (h1 r e)
theorem Dn.join {st : St} {K : St → Tree R} (h : t.head = .join st K) (h1 : Dn C enc (K st) X) : Dn C enc t X := fun r e => by
  cases t <;> simp only [Tree.head] at h <;> cases h
  exact .join (h1 r e)
/-- Whichever comes, the answer is the same. -/
def agree {α : Type} [DecidableEq α] (n : Nat) (f : Nat → Option α) : Option α := bif (List.range n).all (fun j => decide (f j = f 0)) then f 0 else Option.none
theorem agree_at {α : Type} [DecidableEq α] {n : Nat} {f : Nat → Option α} {r : α} (h : agree n f = some r) {j : Nat} (hj : j < n) : f j = some r := by
  unfold agree at h
  cases hb : (List.range n).all (fun j => decide (f j = f 0)) with
  | false => rw [hb] at h; cases h
  | true =>
    rw [hb] at h
    have := List.all_eq_true.1 hb j (List.mem_range.2 hj)
    rw [of_decide_eq_true this]; exact h
theorem agree_of {α : Type} [DecidableEq α] {n : Nat} {f : Nat → Option α} {r : α} (h0 : 0 < n) (h : ∀ j, j < n → f j = some r) : agree n f = some r := by
  unfold agree
  have : (List.range n).all (fun j => decide (f j = f 0)) = true := List.all_eq_true.2 fun j hj => by
    rw [h j (List.mem_range.1 hj), h 0 h0]; simp
  rw [this]; exact h 0 h0
theorem Dn.all [DecidableEq α] {n : Nat} {F : Nat → Option α} (h : t.head = .all n) (h1 : ∀ j, j < n → Dn C enc (t.an j) (F j)) : Dn C enc t (agree n F) := fun r e => by
  cases t <;> simp only [Tree.head] at h <;> cases h
  exact .all fun j hj => h1 j hj r (agree_at e hj)
theorem Dn.any (h : t.head = .any) (h1 : Dn C enc t.al X) (h2 : Dn C enc t.ar X) : Dn C enc t X := fun r e => by
  cases t <;> simp only [Tree.head] at h <;> cases h
  exact .any (h1 r e) (h2 r e)
theorem Dn.call {x : Option β} {J : β → Option α} (encB : β → AVal) (encH : β → List HObj) {f : FuncId} {args : List AVal} {H : List HObj} (h : t.head = .call f args H) (hc : ∀ b, x = some b → C f args H (encB b) (encH b))
    (h1 : ∀ b, Dn C enc (t.go (encB b) (encH b)) (J b)) : Dn C enc t (x.bind J) := fun r e => by
  cases t <;> simp only [Tree.head] at h <;> cases h
  cases x with
  | none => cases e
  | some b => exact .call (hc b rfl) (h1 b r e)
end

def subc : Code → List Nat → Code
  | c, [] => c
  | .seq a _, 0 :: p => subc a p
  | .seq _ b, 1 :: p => subc b p
  | .cond _ a _, 0 :: p => subc a p
  | .cond _ _ b, 1 :: p => subc b p
  | .block _ c, 0 :: p => subc c p
  | .loop c, 0 :: p => subc c p
  | .rangeFunc _ _ a _, 0 :: p => subc a p
  | .rangeFunc _ _ _ b, 1 :: p => subc b p
  | c, _ => c
/-- What follows a place of the code; ms: the rounds left of the loops about it. -/
def kont {R : Type} (E : Env) (n : Nat) : Code → List Nat → List Nat → Kont R → Kont R
  | _, [], _, k => k
  | .seq a b, 0 :: p, ms, k => kont E n a p ms (seqK (exec E n b) k)
  | .seq _ b, 1 :: p, ms, k => kont E n b p ms k
  | .cond _ a _, 0 :: p, ms, k => kont E n a p ms k
  | .cond _ _ b, 1 :: p, ms, k => kont E n b p ms k
  | .block id c, 0 :: p, ms, k => kont E n c p ms (blockK id k)
  | .loop c, 0 :: p, m :: ms, k => kont E n c p ms (loopK (fun st => iter (exec E n c) (drop E (firstId c)) m (drop E (firstId c) st) k) k)
  | _, _, _, k => k

/-- A code that begins with a region, from where the forgotten slots are gone. -/
def regOf {R : Type} (E : Env) (n : Nat) : Code → Kont R → St → Tree R
  | .region id ops draw, k => reg E id ops draw k
  | .seq a b, k => regOf E n a (seqK (exec E n b) k)
  | .block id c, k => regOf E n c (blockK id k)
  | _, _ => fun _ => .none

/-- The encoding of a list. -/
def encL {α : Type} (esz : Nat) (enc : α → AVal) (d : α) (l : List α) : AVal := .slice .shared esz l.length (fun i => enc (l.getD i d))
def encO {α : Type} (sp : Spare) (esz : Nat) (enc : α → AVal) (d : α) (l : List α) : AVal := .slice sp esz l.length (fun i => enc (l.getD i d))

/-! ### Slices told anew -/
section
variable {α : Type} {esz : Nat} {enc : α → AVal} {d : α} {sp : Spare}

/-- What an append makes of two lists. -/
theorem same_append {l m : List α} {k : Nat} {f g : Nat → AVal} (hk : k = m.length) (hf : ∀ i, i < l.length → f i = enc (l.getD i d)) (hg : ∀ i, i < m.length → g i = enc (m.getD i d)) :
    SameV (.slice sp esz (l.length + k) (glue l.length f g)) (encO sp esz enc d (l ++ m)) := by
  unfold encO
  rw [hk, ← List.length_append]
  refine .slice _ _ _ _ _ (fun i hi => ?_)
  rw [List.length_append] at hi
  unfold glue
  cases hb : Nat.ble (i + 1) l.length with
  | true =>
    have := Nat.le_of_ble_eq_true hb
    rw [cond_true, hf i (by omega)]
    simp [List.getD, List.getElem?_append_left (show i < l.length by omega)]
  | false =>
    have : ¬ (i + 1 ≤ l.length) := fun h => by rw [Nat.ble_eq_true_of_le h] at hb; cases hb
    rw [cond_false, hg (i - l.length) (by omega)]
    simp [List.getD, List.getElem?_append_right (show l.length ≤ i by omega)]

/-- One element behind a list. -/
theorem same_push {l : List α} {x : α} {f g : Nat → AVal} (hf : ∀ i, i < l.length → f i = enc (l.getD i d)) (hg : g 0 = enc x) :
    SameV (.slice sp esz (l.length + 1) (glue l.length f g)) (encO sp esz enc d (l ++ [x])) :=
  same_append (m := [x]) rfl hf (fun i hi => by
    have : i = 0 := by simpa using hi
    subst this; exact hg)

/-- A part of a list. -/
theorem same_part {l : List α} {lo hi : Nat} {f : Nat → AVal} (h1 : lo ≤ hi) (h2 : hi ≤ l.length) (hf : ∀ i, i < l.length → f i = enc (l.getD i d)) :
    SameV (.slice sp esz (hi - lo) (fun j => f (lo + j))) (encO sp esz enc d ((l.take hi).drop lo)) := by
  unfold encO
  have hl : ((l.take hi).drop lo).length = hi - lo := by simp; omega
  rw [hl]
  refine .slice _ _ _ _ _ (fun i hi' => ?_)
  rw [hf (lo + i) (by omega)]
  simp only [List.getD]
  rw [List.getElem?_drop, List.getElem?_take_of_lt (by omega)]

end

end Go.AM
