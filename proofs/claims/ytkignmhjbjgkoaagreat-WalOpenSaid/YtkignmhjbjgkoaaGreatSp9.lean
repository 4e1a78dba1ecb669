/- Plain laws, 9: what the operations leave of sizes and power; DiskPower. -/
import Derived.Test.YtkignmhjbjgkoaaGreatSp8
set_option linter.unusedVariables false
set_option linter.unusedSimpArgs false
namespace Go.Proofs.YtkignmhjbjgkoaaGreat
open Go Go.AM

/-- Sizes that an operation lets grow by one. -/
structure Bg (c : Nat) (d : GDisk) : Prop where
  dn : ∀ e ∈ d.Durable, e.Name.size ≤ 200
  pn : ∀ x ∈ d.Pending, x.Name.size + x.To.size ≤ 200
  dl : d.Durable.length + d.Pending.length ≤ c
  il : d.Inodes.length ≤ c
theorem Bg.bd {c : Nat} {d : GDisk} (h : Bg c d) (hc : c ≤ 200) : Bd 200 d := ⟨h.dn, h.pn, by have := h.dl; omega, by have := h.dl; omega, by have := h.il; omega, by omega⟩
theorem Bg.mono {c c' : Nat} {d : GDisk} (h : Bg c d) (hc : c ≤ c') : Bg c' d := ⟨h.dn, h.pn, by have := h.dl; omega, by have := h.il; omega⟩

theorem aft_len (N : Int) : ∀ (ops : List GDirOp) (l : Dir), (aft N ops l).1.length ≤ l.length + ops.length
  | [], l => by simp [aft]
  | x :: ops, l => by
    have h1 := ap_len N l x
    have ih := aft_len N ops (ap N l x).1
    simp only [aft, List.length_cons]
    cases (ap N l x).2 <;> simp only [cond_true, cond_false] <;> omega
theorem isNm_size {s : ByteArray} (h : isNm s = true) : s.size ≤ 60 := by
  simp only [isNm, Bool.and_eq_true, decide_eq_true_eq] at h; exact h.1.2

/-- What an operation may leave. -/
structure Out (c : Nat) (d : GDisk) (r : GDisk × Int) : Prop where
  ok : r.2 = 0 → d.Left ≠ 0 ∧ r.1.Left = (if d.Left > 0 then d.Left - 1 else d.Left) ∧ Bg (c + 1) r.1
  lost : r.2 = 19 → d.Left = 0 ∧ r.1 = d
  err : r.2 ≠ 0 → r.2 ≠ 19 → r.1 = ⟨[], [], [], 0⟩
theorem out_prf {c : Nat} {d next : GDisk} (h : Bg (c + 1) next) : Out c d (prf d next) := by
  unfold prf
  by_cases h0 : d.Left = 0
  · rw [if_pos h0]; exact ⟨fun e => (by cases e), fun _ => ⟨h0, rfl⟩, fun _ h => absurd rfl h⟩
  · rw [if_neg h0]; exact ⟨fun _ => ⟨h0, rfl, ⟨h.dn, h.pn, h.dl, h.il⟩⟩, fun e => (by cases e), fun h => absurd rfl h⟩
theorem out_no {c : Nat} {d : GDisk} {e : Int} (h0 : e ≠ 0) (h1 : e ≠ 19) : Out c d (no e) := ⟨fun h => absurd h h0, fun h => absurd h h1, fun _ _ => rfl⟩
theorem out_fnd {c : Nat} {d : GDisk} {name : ByteArray} (h : (fnd d name).2 ≠ 0) : Out c d (no (fnd d name).2) := by
  refine out_no h ?_
  rcases fnd_e d name with e | e | e <;> rw [e] <;> omega
theorem bg_chg {c : Nat} {d : GDisk} {i : Nat} {x : GInode} (h : Bg c d) : Bg (c + 1) (chg d i x) := ⟨h.dn, h.pn, by have := h.dl; simp only [chg]; omega, by have := h.il; simp only [chg, List.length_set]; omega⟩
theorem bg_pend {c : Nat} {d : GDisk} {x : GDirOp} {I : List GInode} (h : Bg c d) (hx : x.Name.size + x.To.size ≤ 200) (hI : I.length ≤ c + 1) : Bg (c + 1) ⟨I, d.Durable, d.Pending ++ [x], d.Left⟩ := by
  refine ⟨h.dn, fun y hy => ?_, ?_, hI⟩
  · rcases List.mem_append.1 hy with hy | hy
    · exact h.pn y hy
    · have := List.mem_singleton.1 hy; rw [this]; exact hx
  · have := h.dl; simp only [List.length_append, List.length_singleton]; omega

theorem out_len {c : Nat} {d : GDisk} {r : GDisk × Int} (h : Out c d r) (hd : Bg c d) : r.1.Pending.length ≤ c + 1 ∧ r.1.Durable.length ≤ c + 1 ∧ r.1.Inodes.length ≤ c + 1 := by
  by_cases h0 : r.2 = 0
  · have := (h.ok h0).2.2; have h1 := this.dl; have h2 := this.il; omega
  · by_cases h1 : r.2 = 19
    · rw [(h.lost h1).2]; have h1 := hd.dl; have h2 := hd.il; omega
    · rw [h.err h0 h1]; simp

end Go.Proofs.YtkignmhjbjgkoaaGreat
