/- PRINTED: the rows. -/
import Derived.Test.YtkignmhjbjgkoaaRows
import Derived.Test.YtkignmhjbjgkoaaWf
import Derived.Test.YtkignmhjbjgkoaaPfLast
import Derived.WalkKit
import Derived.ProofKit
import Derived.OpenShut
import Derived.ShutString
import Derived.ChangeOld
import Derived.Below
import Derived.SizedLaws
import Derived.Carry
set_option linter.unusedVariables false
set_option maxRecDepth 100000
set_option maxHeartbeats 0
namespace Go.Proofs.Ytkignmhjbjgkoaa
open Go Go.AM
open Go.ChangeShapes Go.WideShapes Go.ChangeAt Go.RowKit
open Go.ChangeMaps (open_string shut_string)
theorem readsGInode_71 {H : Type} {enc0 : TypeId × Value → H} {W : World} : Reads enc0 Try.checked.prog W 71 encGInode wfGInode :=
  reads_struct (β := ByteArray × Int × Unit) (fun b => ⟨b.1, b.2.1⟩) (by kernel_rfl) (by kernel_rfl) (by kernel_rfl) (fun b => rfl) (fun b h => h) (ReadsF.cons (t := 9) (k := 1) (by kernel_rfl) (reads_string (t := 9) (by kernel_rfl)) (fun _ => rfl) (ReadsF.cons (t := 3) (k := 1) (by kernel_rfl) (reads_int (t := 3) (k := .i64) (by kernel_rfl)) (fun _ => rfl) .nil))
theorem readsGDirEntry_110 {H : Type} {enc0 : TypeId × Value → H} {W : World} : Reads enc0 Try.checked.prog W 110 encGDirEntry wfGDirEntry :=
  reads_struct (β := ByteArray × Int × Unit) (fun b => ⟨b.1, b.2.1⟩) (by kernel_rfl) (by kernel_rfl) (by kernel_rfl) (fun b => rfl) (fun b h => h) (ReadsF.cons (t := 9) (k := 1) (by kernel_rfl) (reads_string (t := 9) (by kernel_rfl)) (fun _ => rfl) (ReadsF.cons (t := 3) (k := 1) (by kernel_rfl) (reads_int (t := 3) (k := .i64) (by kernel_rfl)) (fun _ => rfl) .nil))
theorem readsGDirOp_112 {H : Type} {enc0 : TypeId × Value → H} {W : World} : Reads enc0 Try.checked.prog W 112 encGDirOp wfGDirOp :=
  reads_struct (β := Int × ByteArray × ByteArray × Int × Unit) (fun b => ⟨b.1, b.2.1, b.2.2.1, b.2.2.2.1⟩) (by kernel_rfl) (by kernel_rfl) (by kernel_rfl) (fun b => rfl) (fun b h => h) (ReadsF.cons (t := 3) (k := 1) (by kernel_rfl) (reads_int (t := 3) (k := .i64) (by kernel_rfl)) (fun _ => rfl) (ReadsF.cons (t := 9) (k := 1) (by kernel_rfl) (reads_string (t := 9) (by kernel_rfl)) (fun _ => rfl) (ReadsF.cons (t := 9) (k := 1) (by kernel_rfl) (reads_string (t := 9) (by kernel_rfl)) (fun _ => rfl) (ReadsF.cons (t := 3) (k := 1) (by kernel_rfl) (reads_int (t := 3) (k := .i64) (by kernel_rfl)) (fun _ => rfl) .nil))))
theorem readsGDisk_43 {H : Type} {enc0 : TypeId × Value → H} {W : World} : Reads enc0 Try.checked.prog W 43 encGDisk wfGDisk :=
  reads_struct (β := (List GInode) × (List GDirEntry) × (List GDirOp) × Int × Unit) (fun b => ⟨b.1, b.2.1, b.2.2.1, b.2.2.2.1⟩) (by kernel_rfl) (by kernel_rfl) (by kernel_rfl) (fun b => rfl) (fun b h => h) (ReadsF.cons (t := 39) (k := 1) (by kernel_rfl) (reads_slice (t := 39) (e := 71) (esz := 2) (by kernel_rfl) (by kernel_rfl) okGInode readsGInode_71 dGInode) (fun _ => rfl) (ReadsF.cons (t := 40) (k := 1) (by kernel_rfl) (reads_slice (t := 40) (e := 110) (esz := 2) (by kernel_rfl) (by kernel_rfl) okGDirEntry readsGDirEntry_110 dGDirEntry) (fun _ => rfl) (ReadsF.cons (t := 41) (k := 1) (by kernel_rfl) (reads_slice (t := 41) (e := 112) (esz := 4) (by kernel_rfl) (by kernel_rfl) okGDirOp readsGDirOp_112 dGDirOp) (fun _ => rfl) (ReadsF.cons (t := 3) (k := 1) (by kernel_rfl) (reads_int (t := 3) (k := .i64) (by kernel_rfl)) (fun _ => rfl) .nil))))
theorem readsGWal_45 {H : Type} {enc0 : TypeId × Value → H} {W : World} : Reads enc0 Try.checked.prog W 45 encGWal wfGWal :=
  reads_struct (β := GDisk × ByteArray × Int × (List ByteArray) × Unit) (fun b => ⟨b.1, b.2.1, b.2.2.1, b.2.2.2.1⟩) (by kernel_rfl) (by kernel_rfl) (by kernel_rfl) (fun b => rfl) (fun b h => h) (ReadsF.cons (t := 43) (k := 4) (by kernel_rfl) readsGDisk_43 (fun _ => rfl) (ReadsF.cons (t := 9) (k := 1) (by kernel_rfl) (reads_string (t := 9) (by kernel_rfl)) (fun _ => rfl) (ReadsF.cons (t := 3) (k := 1) (by kernel_rfl) (reads_int (t := 3) (k := .i64) (by kernel_rfl)) (fun _ => rfl) (ReadsF.cons (t := 23) (k := 1) (by kernel_rfl) (reads_slice (t := 23) (e := 9) (esz := 1) (by kernel_rfl) (by kernel_rfl) okStr (reads_string (t := 9) (by kernel_rfl)) bE) (fun _ => rfl) .nil))))
theorem rowOwn : ownKnob Try.prog.godebug = none := by kernel_rfl
theorem rowLaidOut : laidOutB Try.prog = true := by kernel_rfl
theorem walAppend_lifted (hG : ProgOk Try.checked.prog G) (hp : ∀ (x0 : GWal) (x1 : List ByteArray), wfGWal x0 → (wfL wfStr) x1 → ∃ n, lookoutlaw23_WalAppend n x0 x1 = some true) (os : Os) (started : os.Started) (H : Type) (enc : TypeId × Value → H) :
    ReturnsInHanded {} Try.checked os 6 .any (Rows.walAppendSpec.pre6 enc Try.prog Try.f6 Rows.walAppendRow.domain false) (Rows.walAppendSpec.post enc Try.prog Try.f6 false true false false) := by
  refine returnsInHanded_of_change_sized (C := Try.checked) rowOwn started (by kernel_rfl) Try.func6
    (ChangeSpec.witness6 (enc := enc) (C := Try.checked) false ⟨#[], #[.agg #[.slice none 0 0, .slice none 0 0, .slice none 0 0, .int .i64 0, .string ByteArray.empty, .int .i64 0, .slice none 0 0], .slice none 0 0], []⟩ 8 (by kernel_rfl) (by kernel_rfl) (by kernel_rfl) (by kernel_rfl)) ?_
  intro W base args ds gs before hval0 hW hcnd hsz0 _
  have hval : ∀ (j : Nat) t v, Try.f6.params[j]? = some t → args[j]? = some v → Value.okWide Try.prog W .any base t v := hval0
  have hW' := hW
  obtain ⟨p, q, hA0, hV, rfl, hfz, hnd⟩ := hW
  have hA : DataW.TrodAll enc Try.prog W 0 (fun _ => true) true Try.f6.params.toList args.toList ds p := hA0
  rw [Try.params6] at hA hval
  obtain ⟨v0, vs0, d0, ds0, p0, q0, hargs, rfl, rfl, h0, r0⟩ := trodAll_cons hA
  obtain ⟨v1, vs1, d1, ds1, p1, q1, rfl, rfl, rfl, h1, r1⟩ := trodAll_cons r0
  obtain ⟨rfl, rfl, rfl⟩ := trodAll_nil r1
  obtain rfl : args = #[v0, v1] := by cases args; simp_all
  obtain ⟨rfl, rfl⟩ := trodVars_none hV
  have k0 := h0
  have lt0 : ∀ x ∈ p0, x.block < W.heap.size := by obtain ⟨m, hm⟩ := k0; exact DataW.trod_lt m _ _ _ hm
  obtain ⟨x0, w0, e0⟩ := arg_agg (by kernel_rfl) (fun _ => rfl) (fun _ => rfl) readsGWal_45 (hval 0 45 v0 rfl rfl) h0
  have k1 := h1
  have lt1 : ∀ x ∈ p1, x.block < W.heap.size := by obtain ⟨m, hm⟩ := k1; exact DataW.trod_lt m _ _ _ hm
  obtain ⟨x1, w1, e1⟩ : ∃ x, (wfL wfStr) x ∧ Rep W (inW W) (fun _ => 0) 0 ((encL 1 AVal.str bE) x) v1 := arg_one (by obtain ⟨a, l, c, rfl⟩ := okWide_slice Try.underlying23 (hval 1 23 v1 rfl rfl); rfl) (fun _ => rfl) (reads_slice (t := 23) (e := 9) (esz := 1) (by kernel_rfl) (by kernel_rfl) okStr (reads_string (t := 9) (by kernel_rfl)) bE) h1
  clear hA0 hval0 hsz0
  obtain ⟨n, hn⟩ := hp x0 x1 w0 w1
  have hrun := lookoutlaw23_WalAppend_ok n x0 x1 true hn
  have hargs2 : ArgsOk W (omega0 W) (fun _ => 0) 0 [encGWal x0, (encL 1 AVal.str bE) x1] #[v0, v1] := argsOk_of (RepL.cons e0 (RepL.cons e1 .nil))
  refine (run_sound hG n 6 (of_decide_eq_true (by kernel_rfl)) _ _ _ _ hrun #[v0, v1] W (omega0 W) (fun _ => 0) (pre0 W) hargs2).mono fun e W' ⟨v, ω, η, he, hpost⟩ => ?_
  subst he
  have hvt : v = .bool true := by have := hpost.rep; exact rep_bool this
  subst hvt
  have bel : Below W.heap.size W W' := below_of hpost.keeps
  exact ⟨_, rfl, _, _, _, [], _, [], hW', trodAll_mk1 (shut_bool (by kernel_rfl) _), (trodAll_cons_mk (Below.trod rowLaidOut (by kernel_rfl) (of_decide_eq_true (by kernel_rfl)) k0 bel lt0) (trodAll_cons_mk (Below.trod rowLaidOut (by kernel_rfl) (of_decide_eq_true (by kernel_rfl)) k1 bel lt1) trodAll_mk0)), rfl, bel.frame _, fun h => by cases h⟩
theorem walAppend_over (hG : ProgOk Try.checked.prog G) (hp : ∀ (x0 : GWal) (x1 : List ByteArray), wfGWal x0 → (wfL wfStr) x1 → ∃ n, lookoutlaw23_WalAppend n x0 x1 = some true) : Rows.WalAppendSaid :=
  OpenClaim.holds_of_wide 6 Try.f6 rfl rfl rfl rfl rfl rfl rfl ⟨rfl, rfl, rfl, rfl, rfl⟩ rfl rfl rfl rfl rfl (by kernel_rfl) Try.func6 (by kernel_rfl)
    (of_decide_eq_true (by kernel_rfl)) (by unfold Func.isWrapper; first | (rw [if_pos (by decide +kernel)]; kernel_rfl) | (rw [if_neg (by decide +kernel)]; exact ⟨rfl, rfl⟩))
    (fun os started H enc _ => walAppend_lifted hG hp os started H enc)
end Go.Proofs.Ytkignmhjbjgkoaa
