/- PRINTED: the rows. -/
import Derived.Test.YtomalcfghdaghaaGreatDoorRows
import Derived.Test.YtomalcfghdaghaaGreatDoorWf
import Derived.Test.YtomalcfghdaghaaGreatDoorPfLast
import Derived.Test.YtomalcfghdaghaaGreatDoorRowD
import Derived.WalkKit
import Derived.ProofKit
import Derived.OpenShut
import Derived.ShutString
import Derived.ChangeOld
import Derived.Below
import Derived.SizedLaws
import Derived.Carry
set_option linter.unusedVariables false
set_option maxRecDepth 100000
set_option maxHeartbeats 0
namespace Go.Proofs.YtomalcfghdaghaaGreatDoor
open Go Go.AM
open Go.ChangeShapes Go.WideShapes Go.ChangeAt Go.RowKit
open Go.ChangeMaps (open_string shut_string)
theorem readsGI_84 {H:Type} {enc0:TypeId×Value→H} {W:World}:Reads enc0 Tryz.checked.prog W 84 encGI wfGI:=
 reads_struct (β:=ByteArray×Int×Unit) (fun b=>⟨b.1,b.2.1⟩) (by kernel_rfl) (by kernel_rfl) (by kernel_rfl) (fun b=>rfl) (fun b h=>h) (ReadsF.cons (t:=9) (k:=1) (by kernel_rfl) (reads_string (t:=9) (by kernel_rfl)) (fun _=>rfl) (ReadsF.cons (t:=3) (k:=1) (by kernel_rfl) (reads_int (t:=3) (k:=.i64) (by kernel_rfl)) (fun _=>rfl) .nil))
theorem readsGDE_86 {H:Type} {enc0:TypeId×Value→H} {W:World}:Reads enc0 Tryz.checked.prog W 86 encGDE wfGDE:=
 reads_struct (β:=ByteArray×Int×Unit) (fun b=>⟨b.1,b.2.1⟩) (by kernel_rfl) (by kernel_rfl) (by kernel_rfl) (fun b=>rfl) (fun b h=>h) (ReadsF.cons (t:=9) (k:=1) (by kernel_rfl) (reads_string (t:=9) (by kernel_rfl)) (fun _=>rfl) (ReadsF.cons (t:=3) (k:=1) (by kernel_rfl) (reads_int (t:=3) (k:=.i64) (by kernel_rfl)) (fun _=>rfl) .nil))
theorem readsGDO_88 {H:Type} {enc0:TypeId×Value→H} {W:World}:Reads enc0 Tryz.checked.prog W 88 encGDO wfGDO:=
 reads_struct (β:=Int×ByteArray×ByteArray×Int×Unit) (fun b=>⟨b.1,b.2.1,b.2.2.1,b.2.2.2.1⟩) (by kernel_rfl) (by kernel_rfl) (by kernel_rfl) (fun b=>rfl) (fun b h=>h) (ReadsF.cons (t:=3) (k:=1) (by kernel_rfl) (reads_int (t:=3) (k:=.i64) (by kernel_rfl)) (fun _=>rfl) (ReadsF.cons (t:=9) (k:=1) (by kernel_rfl) (reads_string (t:=9) (by kernel_rfl)) (fun _=>rfl) (ReadsF.cons (t:=9) (k:=1) (by kernel_rfl) (reads_string (t:=9) (by kernel_rfl)) (fun _=>rfl) (ReadsF.cons (t:=3) (k:=1) (by kernel_rfl) (reads_int (t:=3) (k:=.i64) (by kernel_rfl)) (fun _=>rfl) .nil))))
theorem readsGDisk_48 {H:Type} {enc0:TypeId×Value→H} {W:World}:Reads enc0 Tryz.checked.prog W 48 encGDisk wfGDisk:=
 reads_struct (β:=(List GI)×(List GDE)×(List GDO)×Int×Unit) (fun b=>⟨b.1,b.2.1,b.2.2.1,b.2.2.2.1⟩) (by kernel_rfl) (by kernel_rfl) (by kernel_rfl) (fun b=>rfl) (fun b h=>h) (ReadsF.cons (t:=44) (k:=1) (by kernel_rfl) (reads_slice (t:=44) (e:=84) (esz:=2) (by kernel_rfl) (by kernel_rfl) okGI readsGI_84 dGI) (fun _=>rfl) (ReadsF.cons (t:=45) (k:=1) (by kernel_rfl) (reads_slice (t:=45) (e:=86) (esz:=2) (by kernel_rfl) (by kernel_rfl) okGDE readsGDE_86 dGDE) (fun _=>rfl) (ReadsF.cons (t:=46) (k:=1) (by kernel_rfl) (reads_slice (t:=46) (e:=88) (esz:=4) (by kernel_rfl) (by kernel_rfl) okGDO readsGDO_88 dGDO) (fun _=>rfl) (ReadsF.cons (t:=3) (k:=1) (by kernel_rfl) (reads_int (t:=3) (k:=.i64) (by kernel_rfl)) (fun _=>rfl) .nil))))
theorem readsGBR_27 {H:Type} {enc0:TypeId×Value→H} {W:World}:Reads enc0 Tryz.checked.prog W 27 encGBR wfGBR:=
 reads_struct (β:=Int×Int×ByteArray×Int×Int×Int×Unit) (fun b=>⟨b.1,b.2.1,b.2.2.1,b.2.2.2.1,b.2.2.2.2.1,b.2.2.2.2.2.1⟩) (by kernel_rfl) (by kernel_rfl) (by kernel_rfl) (fun b=>rfl) (fun b h=>h) (ReadsF.cons (t:=3) (k:=1) (by kernel_rfl) (reads_int (t:=3) (k:=.i64) (by kernel_rfl)) (fun _=>rfl) (ReadsF.cons (t:=3) (k:=1) (by kernel_rfl) (reads_int (t:=3) (k:=.i64) (by kernel_rfl)) (fun _=>rfl) (ReadsF.cons (t:=9) (k:=1) (by kernel_rfl) (reads_string (t:=9) (by kernel_rfl)) (fun _=>rfl) (ReadsF.cons (t:=3) (k:=1) (by kernel_rfl) (reads_int (t:=3) (k:=.i64) (by kernel_rfl)) (fun _=>rfl) (ReadsF.cons (t:=3) (k:=1) (by kernel_rfl) (reads_int (t:=3) (k:=.i64) (by kernel_rfl)) (fun _=>rfl) (ReadsF.cons (t:=3) (k:=1) (by kernel_rfl) (reads_int (t:=3) (k:=.i64) (by kernel_rfl)) (fun _=>rfl) .nil))))))
theorem readsGMf_43 {H:Type} {enc0:TypeId×Value→H} {W:World}:Reads enc0 Tryz.checked.prog W 43 encGMf wfGMf:=
 reads_struct (β:=Int×Int×Int×ByteArray×(List GBR)×Unit) (fun b=>⟨b.1,b.2.1,b.2.2.1,b.2.2.2.1,b.2.2.2.2.1⟩) (by kernel_rfl) (by kernel_rfl) (by kernel_rfl) (fun b=>rfl) (fun b h=>h) (ReadsF.cons (t:=3) (k:=1) (by kernel_rfl) (reads_int (t:=3) (k:=.i64) (by kernel_rfl)) (fun _=>rfl) (ReadsF.cons (t:=3) (k:=1) (by kernel_rfl) (reads_int (t:=3) (k:=.i64) (by kernel_rfl)) (fun _=>rfl) (ReadsF.cons (t:=3) (k:=1) (by kernel_rfl) (reads_int (t:=3) (k:=.i64) (by kernel_rfl)) (fun _=>rfl) (ReadsF.cons (t:=9) (k:=1) (by kernel_rfl) (reads_string (t:=9) (by kernel_rfl)) (fun _=>rfl) (ReadsF.cons (t:=41) (k:=1) (by kernel_rfl) (reads_slice (t:=41) (e:=27) (esz:=6) (by kernel_rfl) (by kernel_rfl) okGBR readsGBR_27 dGBR) (fun _=>rfl) .nil)))))
theorem rowOwn:ownKnob Tryz.prog.godebug=none:=by kernel_rfl
theorem rowLaidOut:laidOutB Tryz.prog=true:=by kernel_rfl
theorem manifestGarbage_lifted (hp:∀(x0:GDisk) (x1:GMf),wfGDisk x0→wfGMf x1→∃n,lookoutlaw24_ManifestGarbage n x0 x1=some true) (os:Os) (started:os.Started) (H:Type) (enc:TypeId×Value→H) :
  ReturnsInHanded {} Tryz.checked os 5 .any (fun w args=>(Rows.manifestGarbageSpec.pre enc Tryz.prog Tryz.f5 Rows.manifestGarbageRow.domain false w args∧laidMetH Tryz.prog Rows.manifestGarbageRow.laid w)∧sizedMet enc Tryz.prog Tryz.f5 (OpenSpec.ofChange Rows.manifestGarbageSpec) false w args) (Rows.manifestGarbageSpec.post enc Tryz.prog Tryz.f5 false true false false):=by
 refine handed_laid (C:=Tryz.checked) (X:=fun w _=>laidMetH Tryz.prog Rows.manifestGarbageRow.laid w) (fun _ _ _ hh h=>h.of_heap hh) rowOwn started (by kernel_rfl) Tryz.func5
  (ChangeSpec.witness_shaped (enc:=enc) (C:=Tryz.checked) (os:=os) (X:=fun w _=>laidMetH Tryz.prog Rows.manifestGarbageRow.laid w) false (World.laidAll Tryz.prog os Rows.manifestGarbageRow.laid) #[.agg #[.slice none 0 0,.slice none 0 0,.slice none 0 0,.int .i64 0],.agg #[.int .i64 0,.int .i64 0,.int .i64 0,.string ByteArray.empty,.slice none 0 0]] 8 (World.laidAll_os _ _ _)
   (World.shaped_of_ZipB (by kernel_rfl) (by kernel_rfl)) (by kernel_rfl) (by kernel_rfl) (by kernel_rfl)
   (by rw [MakeChecks.laidMetH_plain _ _ _ (by kernel_rfl)];exact laidMet_laidAll _ (by kernel_rfl) (by kernel_rfl))) ?_
 intro W base args ds gs before hval0 hW hL hsh
 letI:Vars:=wholeV W
 have hG:=gRow (l:=Rows.manifestGarbageRow.laid) rfl hL hsh
 have hval:∀(j:Nat) t v,Tryz.f5.params[j]?=some t→args[j]?=some v→Value.okWide Tryz.prog W .any base t v:=hval0
 have hW':=hW
 obtain ⟨p,q,hA0,hV,rfl,hfz,hnd⟩:=hW
 have hA:DataW.TrodAll enc Tryz.prog W 0 (fun _=>true) true Tryz.f5.params.toList args.toList ds p:=hA0
 rw [Tryz.params5] at hA hval
 obtain ⟨v0,vs0,d0,ds0,p0,q0,hargs,rfl,rfl,h0,r0⟩:=trodAll_cons hA
 obtain ⟨v1,vs1,d1,ds1,p1,q1,rfl,rfl,rfl,h1,r1⟩:=trodAll_cons r0
 obtain ⟨rfl,rfl,rfl⟩:=trodAll_nil r1
 obtain rfl:args=#[v0,v1]:=by cases args;simp_all
 obtain ⟨rfl,rfl⟩:=trodVars_none hV
 have k0:=h0
 have lt0:∀x∈p0,x.block<W.heap.size:=by obtain ⟨m,hm⟩:=k0;exact DataW.trod_lt m _ _ _ hm
 obtain ⟨x0,w0,e0⟩:=arg_agg (by kernel_rfl) (fun _=>rfl) (fun _=>rfl) readsGDisk_48 (hval 0 48 v0 rfl rfl) h0
 have k1:=h1
 have lt1:∀x∈p1,x.block<W.heap.size:=by obtain ⟨m,hm⟩:=k1;exact DataW.trod_lt m _ _ _ hm
 obtain ⟨x1,w1,e1⟩:=arg_agg (by kernel_rfl) (fun _=>rfl) (fun _=>rfl) readsGMf_43 (hval 1 43 v1 rfl rfl) h1
 clear hA0 hval0
 obtain ⟨n,hn⟩:=hp x0 x1 w0 w1
 have hrun:=lookoutlaw24_ManifestGarbage_ok n x0 x1 true hn
 have hargs2:ArgsOk W (omega0 W) (fun _=>0) 0 [encGDisk x0,encGMf x1] #[v0,v1]:=argsOk_of (RepL.cons e0 (RepL.cons e1 .nil))
 refine (run_sound (VR:=wholeV W) hG n 5 (of_decide_eq_true (by kernel_rfl)) _ _ _ _ hrun #[v0,v1] W (omega0 W) (fun _=>0) (pre0 W) hargs2).mono fun e W' ⟨v,ω,η,he,hpost⟩=>?_
 subst he
 have hvt:v=.bool true:=by have:=hpost.rep;exact rep_bool this
 subst hvt
 have bel:Below W.heap.size W W':=below_of hpost.keeps
 exact ⟨_,rfl,_,_,_,[],_,[],hW',trodAll_mk1 (shut_bool (by kernel_rfl) _),(trodAll_cons_mk (Below.trod rowLaidOut (by kernel_rfl) (of_decide_eq_true (by kernel_rfl)) k0 bel lt0) (trodAll_cons_mk (Below.trod rowLaidOut (by kernel_rfl) (of_decide_eq_true (by kernel_rfl)) k1 bel lt1) trodAll_mk0)),rfl,bel.frame _,fun h=>by cases h⟩
theorem manifestGarbage_over (hp:∀(x0:GDisk) (x1:GMf),wfGDisk x0→wfGMf x1→∃n,lookoutlaw24_ManifestGarbage n x0 x1=some true):Rows.ManifestGarbageSaid:=
 OpenClaim.holds_of_wide 5 Tryz.f5 rfl rfl rfl rfl rfl rfl rfl ⟨rfl,rfl,rfl,rfl,rfl⟩ rfl rfl rfl rfl rfl (by kernel_rfl) Tryz.func5 (by kernel_rfl)
  (of_decide_eq_true (by kernel_rfl)) (by unfold Func.isWrapper;first | (rw [if_pos (by decide +kernel)];kernel_rfl) | (rw [if_neg (by decide +kernel)];exact ⟨rfl,rfl⟩))
  (fun os started H enc _=>manifestGarbage_lifted hp os started H enc)
end Go.Proofs.YtomalcfghdaghaaGreatDoor
