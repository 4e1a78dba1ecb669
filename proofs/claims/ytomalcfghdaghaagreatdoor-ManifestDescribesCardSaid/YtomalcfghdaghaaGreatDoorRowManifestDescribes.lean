/- PRINTED: the rows. -/
import Derived.Test.YtomalcfghdaghaaGreatDoorRows
import Derived.Test.YtomalcfghdaghaaGreatDoorWf
import Derived.Test.YtomalcfghdaghaaGreatDoorPfLast
import Derived.Test.YtomalcfghdaghaaGreatDoorRowD
import Derived.WalkKit
import Derived.ProofKit
import Derived.OpenShut
import Derived.ShutString
import Derived.ChangeOld
import Derived.Below
import Derived.SizedLaws
import Derived.Carry
set_option linter.unusedVariables false
set_option maxRecDepth 100000
set_option maxHeartbeats 0
namespace Go.Proofs.YtomalcfghdaghaaGreatDoor
open Go Go.AM
open Go.ChangeShapes Go.WideShapes Go.ChangeAt Go.RowKit
open Go.ChangeMaps (open_string shut_string)
theorem readsGLabel_121 {H : Type} {enc0 : TypeId × Value → H} {W : World} : Reads enc0 Tryz.checked.prog W 121 encGLabel wfGLabel :=
  reads_struct (β := ByteArray × ByteArray × Unit) (fun b => ⟨b.1, b.2.1⟩) (by kernel_rfl) (by kernel_rfl) (by kernel_rfl) (fun b => rfl) (fun b h => h) (ReadsF.cons (t := 9) (k := 1) (by kernel_rfl) (reads_string (t := 9) (by kernel_rfl)) (fun _ => rfl) (ReadsF.cons (t := 9) (k := 1) (by kernel_rfl) (reads_string (t := 9) (by kernel_rfl)) (fun _ => rfl) .nil))
theorem readsG35_35 {H : Type} {enc0 : TypeId × Value → H} {W : World} : Reads enc0 Tryz.checked.prog W 35 encG35 wfG35 :=
  reads_array (β := Int × Int × Int × Int × Int × Int × Int × Int × Unit) (fun b => ⟨b.1, b.2.1, b.2.2.1, b.2.2.2.1, b.2.2.2.2.1, b.2.2.2.2.2.1, b.2.2.2.2.2.2.1, b.2.2.2.2.2.2.2.1⟩) (by kernel_rfl) (by kernel_rfl) (by kernel_rfl) (fun b => rfl) (fun b h => h) (ReadsF.cons (t := 34) (k := 1) (by kernel_rfl) (reads_int (t := 34) (k := .u32) (by kernel_rfl)) (fun _ => rfl) (ReadsF.cons (t := 34) (k := 1) (by kernel_rfl) (reads_int (t := 34) (k := .u32) (by kernel_rfl)) (fun _ => rfl) (ReadsF.cons (t := 34) (k := 1) (by kernel_rfl) (reads_int (t := 34) (k := .u32) (by kernel_rfl)) (fun _ => rfl) (ReadsF.cons (t := 34) (k := 1) (by kernel_rfl) (reads_int (t := 34) (k := .u32) (by kernel_rfl)) (fun _ => rfl) (ReadsF.cons (t := 34) (k := 1) (by kernel_rfl) (reads_int (t := 34) (k := .u32) (by kernel_rfl)) (fun _ => rfl) (ReadsF.cons (t := 34) (k := 1) (by kernel_rfl) (reads_int (t := 34) (k := .u32) (by kernel_rfl)) (fun _ => rfl) (ReadsF.cons (t := 34) (k := 1) (by kernel_rfl) (reads_int (t := 34) (k := .u32) (by kernel_rfl)) (fun _ => rfl) (ReadsF.cons (t := 34) (k := 1) (by kernel_rfl) (reads_int (t := 34) (k := .u32) (by kernel_rfl)) (fun _ => rfl) .nil))))))))
theorem readsGZone_37 {H : Type} {enc0 : TypeId × Value → H} {W : World} : Reads enc0 Tryz.checked.prog W 37 encGZone wfGZone :=
  reads_struct (β := Int × Int × Int × Int × Int × G35 × Unit) (fun b => ⟨b.1, b.2.1, b.2.2.1, b.2.2.2.1, b.2.2.2.2.1, b.2.2.2.2.2.1⟩) (by kernel_rfl) (by kernel_rfl) (by kernel_rfl) (fun b => rfl) (fun b h => h) (ReadsF.cons (t := 3) (k := 1) (by kernel_rfl) (reads_int (t := 3) (k := .i64) (by kernel_rfl)) (fun _ => rfl) (ReadsF.cons (t := 3) (k := 1) (by kernel_rfl) (reads_int (t := 3) (k := .i64) (by kernel_rfl)) (fun _ => rfl) (ReadsF.cons (t := 3) (k := 1) (by kernel_rfl) (reads_int (t := 3) (k := .i64) (by kernel_rfl)) (fun _ => rfl) (ReadsF.cons (t := 3) (k := 1) (by kernel_rfl) (reads_int (t := 3) (k := .i64) (by kernel_rfl)) (fun _ => rfl) (ReadsF.cons (t := 3) (k := 1) (by kernel_rfl) (reads_int (t := 3) (k := .i64) (by kernel_rfl)) (fun _ => rfl) (ReadsF.cons (t := 35) (k := 8) (by kernel_rfl) readsG35_35 (fun _ => rfl) .nil))))))
theorem readsGChunk_39 {H : Type} {enc0 : TypeId × Value → H} {W : World} : Reads enc0 Tryz.checked.prog W 39 encGChunk wfGChunk :=
  reads_struct (β := Int × (List GLabel) × GZone × ByteArray × Unit) (fun b => ⟨b.1, b.2.1, b.2.2.1, b.2.2.2.1⟩) (by kernel_rfl) (by kernel_rfl) (by kernel_rfl) (fun b => rfl) (fun b h => h) (ReadsF.cons (t := 3) (k := 1) (by kernel_rfl) (reads_int (t := 3) (k := .i64) (by kernel_rfl)) (fun _ => rfl) (ReadsF.cons (t := 33) (k := 1) (by kernel_rfl) (reads_slice (t := 33) (e := 121) (esz := 2) (by kernel_rfl) (by kernel_rfl) okGLabel readsGLabel_121 dGLabel) (fun _ => rfl) (ReadsF.cons (t := 37) (k := 13) (by kernel_rfl) readsGZone_37 (fun _ => rfl) (ReadsF.cons (t := 9) (k := 1) (by kernel_rfl) (reads_string (t := 9) (by kernel_rfl)) (fun _ => rfl) .nil))))
theorem readsGBlock_24 {H : Type} {enc0 : TypeId × Value → H} {W : World} : Reads enc0 Tryz.checked.prog W 24 encGBlock wfGBlock :=
  reads_struct (β := Int × Int × Int × (List GChunk) × Unit) (fun b => ⟨b.1, b.2.1, b.2.2.1, b.2.2.2.1⟩) (by kernel_rfl) (by kernel_rfl) (by kernel_rfl) (fun b => rfl) (fun b h => h) (ReadsF.cons (t := 3) (k := 1) (by kernel_rfl) (reads_int (t := 3) (k := .i64) (by kernel_rfl)) (fun _ => rfl) (ReadsF.cons (t := 3) (k := 1) (by kernel_rfl) (reads_int (t := 3) (k := .i64) (by kernel_rfl)) (fun _ => rfl) (ReadsF.cons (t := 3) (k := 1) (by kernel_rfl) (reads_int (t := 3) (k := .i64) (by kernel_rfl)) (fun _ => rfl) (ReadsF.cons (t := 22) (k := 1) (by kernel_rfl) (reads_slice (t := 22) (e := 39) (esz := 16) (by kernel_rfl) (by kernel_rfl) okGChunk readsGChunk_39 dGChunk) (fun _ => rfl) .nil))))
theorem rowOwn : ownKnob Tryz.prog.godebug = none := by kernel_rfl
theorem rowLaidOut : laidOutB Tryz.prog = true := by kernel_rfl
theorem manifestDescribes_lifted (hp : ∀ (x0 : GBlock) (x1 : Int), wfGBlock x0 → (wfInt .i64) x1 → ∃ n, lookoutlaw24_ManifestDescribes n x0 x1 = some true) (os : Os) (started : os.Started) (H : Type) (enc : TypeId × Value → H) :
    ReturnsInHanded {} Tryz.checked os 4 .any (fun w args => (Rows.manifestDescribesSpec.pre enc Tryz.prog Tryz.f4 Rows.manifestDescribesRow.domain false w args ∧ laidMetH Tryz.prog Rows.manifestDescribesRow.laid w) ∧ sizedMet enc Tryz.prog Tryz.f4 (OpenSpec.ofChange Rows.manifestDescribesSpec) false w args) (Rows.manifestDescribesSpec.post enc Tryz.prog Tryz.f4 false true false false) := by
  refine handed_laid (C := Tryz.checked) (X := fun w _ => laidMetH Tryz.prog Rows.manifestDescribesRow.laid w) (fun _ _ _ hh h => h.of_heap hh) rowOwn started (by kernel_rfl) Tryz.func4
    (ChangeSpec.witness_shaped (enc := enc) (C := Tryz.checked) (os := os) (X := fun w _ => laidMetH Tryz.prog Rows.manifestDescribesRow.laid w) false (World.laidAll Tryz.prog os Rows.manifestDescribesRow.laid) #[.agg #[.int .i64 0, .int .i64 0, .int .i64 0, .slice none 0 0], .int .i64 0] 8 (World.laidAll_os _ _ _)
      (World.shaped_of_ZipB (by kernel_rfl) (by kernel_rfl)) (by kernel_rfl) (by kernel_rfl) (by kernel_rfl)
      (by rw [MakeChecks.laidMetH_plain _ _ _ (by kernel_rfl)]; exact laidMet_laidAll _ (by kernel_rfl) (by kernel_rfl))) ?_
  intro W base args ds gs before hval0 hW hL hsh
  letI : Vars := wholeV W
  have hG := gRow (l := Rows.manifestDescribesRow.laid) rfl hL hsh
  have hval : ∀ (j : Nat) t v, Tryz.f4.params[j]? = some t → args[j]? = some v → Value.okWide Tryz.prog W .any base t v := hval0
  have hW' := hW
  obtain ⟨p, q, hA0, hV, rfl, hfz, hnd⟩ := hW
  have hA : DataW.TrodAll enc Tryz.prog W 0 (fun _ => true) true Tryz.f4.params.toList args.toList ds p := hA0
  rw [Tryz.params4] at hA hval
  obtain ⟨v0, vs0, d0, ds0, p0, q0, hargs, rfl, rfl, h0, r0⟩ := trodAll_cons hA
  obtain ⟨v1, vs1, d1, ds1, p1, q1, rfl, rfl, rfl, h1, r1⟩ := trodAll_cons r0
  obtain ⟨rfl, rfl, rfl⟩ := trodAll_nil r1
  obtain rfl : args = #[v0, v1] := by cases args; simp_all
  obtain ⟨rfl, rfl⟩ := trodVars_none hV
  have k0 := h0
  have lt0 : ∀ x ∈ p0, x.block < W.heap.size := by obtain ⟨m, hm⟩ := k0; exact DataW.trod_lt m _ _ _ hm
  obtain ⟨x0, w0, e0⟩ := arg_agg (by kernel_rfl) (fun _ => rfl) (fun _ => rfl) readsGBlock_24 (hval 0 24 v0 rfl rfl) h0
  have k1 := h1
  have lt1 : ∀ x ∈ p1, x.block < W.heap.size := by obtain ⟨m, hm⟩ := k1; exact DataW.trod_lt m _ _ _ hm
  obtain ⟨x1, w1, e1⟩ : ∃ x, (wfInt .i64) x ∧ Rep W (inW W) (fun _ => 0) 0 ((AVal.int .i64) x) v1 := arg_one (by obtain ⟨a, rfl, _⟩ := open_int Tryz.underlying3 (hval 1 3 v1 rfl rfl) h1; rfl) (fun _ => rfl) (reads_int (t := 3) (k := .i64) (by kernel_rfl)) h1
  clear hA0 hval0
  obtain ⟨n, hn⟩ := hp x0 x1 w0 w1
  have hrun := lookoutlaw24_ManifestDescribes_ok n x0 x1 true hn
  have hargs2 : ArgsOk W (omega0 W) (fun _ => 0) 0 [encGBlock x0, (AVal.int .i64) x1] #[v0, v1] := argsOk_of (RepL.cons e0 (RepL.cons e1 .nil))
  refine (run_sound (VR := wholeV W) hG n 4 (of_decide_eq_true (by kernel_rfl)) _ _ _ _ hrun #[v0, v1] W (omega0 W) (fun _ => 0) (pre0 W) hargs2).mono fun e W' ⟨v, ω, η, he, hpost⟩ => ?_
  subst he
  have hvt : v = .bool true := by have := hpost.rep; exact rep_bool this
  subst hvt
  have bel : Below W.heap.size W W' := below_of hpost.keeps
  exact ⟨_, rfl, _, _, _, [], _, [], hW', trodAll_mk1 (shut_bool (by kernel_rfl) _), (trodAll_cons_mk (Below.trod rowLaidOut (by kernel_rfl) (of_decide_eq_true (by kernel_rfl)) k0 bel lt0) (trodAll_cons_mk (Below.trod rowLaidOut (by kernel_rfl) (of_decide_eq_true (by kernel_rfl)) k1 bel lt1) trodAll_mk0)), rfl, bel.frame _, fun h => by cases h⟩
theorem manifestDescribes_over (hp : ∀ (x0 : GBlock) (x1 : Int), wfGBlock x0 → (wfInt .i64) x1 → ∃ n, lookoutlaw24_ManifestDescribes n x0 x1 = some true) : Rows.ManifestDescribesSaid :=
  OpenClaim.holds_of_wide 4 Tryz.f4 rfl rfl rfl rfl rfl rfl rfl ⟨rfl, rfl, rfl, rfl, rfl⟩ rfl rfl rfl rfl rfl (by kernel_rfl) Tryz.func4 (by kernel_rfl)
    (of_decide_eq_true (by kernel_rfl)) (by unfold Func.isWrapper; first | (rw [if_pos (by decide +kernel)]; kernel_rfl) | (rw [if_neg (by decide +kernel)]; exact ⟨rfl, rfl⟩))
    (fun os started H enc _ => manifestDescribes_lifted hp os started H enc)
end Go.Proofs.YtomalcfghdaghaaGreatDoor
